/-
  Ls, Dw, Tg, Lx, Rf, Up, in one.
-/
import Derived.Test.YtngklbnodknadaaGreatDoorMal
import Derived.Test.YtngklbnodknadaaGreatDoorMan
import Derived.Shelf.Abstract
import Derived.Laws.Externs
import Derived.Test.YtngklbnodknadaaGreatDoorMak
section
namespace Go.Proofs.YtngklbnodknadaaGreatDoor
open Go.RowKit

abbrev u64T (n : Nat) : T := .d (.v (.int .u64 (n : Int)))
theorem u_in {z : Int} (h0 : 0 ≤ z) (h1 : z < 18446744073709551616) : IntKind.u64.wrap z = z := IntWalk.u64_in z ⟨h0, by omega⟩
theorem u_nat {z : Int} {n : Nat} (e : z = (n : Int)) (h : n < 18446744073709551616) : IntKind.u64.wrap z = (n : Int) := by rw [e]; exact u_in (by omega) (by omega)
theorem u8_nat {z : Int} {n : Nat} (e : z = (n : Int)) (h : n < 256) : IntKind.u8.wrap z = (n : Int) := by rw [e]; exact IntWalk.u8_in _ ⟨by omega, by omega⟩
theorem i_nat {z : Int} {n : Nat} (e : z = (n : Int)) (h : n ≤ 9223372036854775807) : IntKind.i64.wrap z = (n : Int) := by rw [e]; exact wrap_in (by omega) (by omega)
theorem min64 {k : Nat} (h : k ≤ 60) : min ((k : Nat) : Int).toNat IntKind.u64.bits = k := by
  show min ((k : Nat) : Int).toNat 64 = k
  omega
theorem chr_nat {n : Nat} (h : n < 10) : (chr n).toNat = n + 48 := by
  unfold chr; rw [UInt8.toNat_ofNat']; omega
theorem tdiv_nat {a b : Nat} : ((a : Nat) : Int).tdiv ((b : Nat) : Int) = ((a / b : Nat) : Int) := by
  rw [Int.ofNat_tdiv]
theorem cheatL_len : cheatL.length = 61 := by simp [cheatL]
theorem t_cheat {o : Oper} {σ : Nat → T} {t : TypeId} {kk : Nat} (ho : o.op = .load t (.global 13)) (ht : aggOf? Tryz.prog t = some (false, kk)) : Tri Tryz.prog o σ [] (.d (.sl 2 cheatL)) [] := by
  have hp : (13, 61, leftV) ∈ stabs := by
    unfold stabs
    exact List.mem_cons_self
  have hl : cheatL.length = ((13, 61, leftV) : Nat × Nat × List Value).2.1 := cheatL_len
  have hr : ∀ S, RepLv S 2 cheatL ((13, 61, leftV) : Nat × Nat × List Value).2.2 := cheatL_rep
  exact t_stab _ ho ht hp hr hl
/-- The extra digits: n = P / 10^(L - i) at the i-th place from the front. -/
theorem left_extra {P L i : Nat} (h : i + 1 ≤ L) : P / 10 ^ (L - (i + 1)) % 10 = P / 10 ^ (L - 1 - i) % 10 := by rw [show L - (i + 1) = L - 1 - i by omega]
/-- What one round of the first loop reckons. -/
structure Rd (b : UInt8) (k C1 C0 R : Nat) : Prop where
  c1 : IntKind.u64.wrap (b.toNat : Int) = (b.toNat : Int)
  c2 : IntKind.u64.wrap ((b.toNat : Int) - 48) = ((dig b : Nat) : Int)
  c3 : IntKind.u64.wrap (((dig b : Nat) : Int) * 2 ^ min ((k : Nat) : Int).toNat IntKind.u64.bits) = ((dig b * 2 ^ k : Nat) : Int)
  c4 : IntKind.u64.wrap ((C1 : Int) + ((dig b * 2 ^ k : Nat) : Int)) = ((dig b * 2 ^ k + C1 : Nat) : Int)
  c5 : IntKind.u64.wrap (((dig b * 2 ^ k + C1 : Nat) : Int).tdiv 10) = ((C0 : Nat) : Int)
  c6 : IntKind.u64.wrap (10 * (C0 : Int)) = ((10 * C0 : Nat) : Int)
  c7 : IntKind.u64.wrap (((dig b * 2 ^ k + C1 : Nat) : Int) - ((10 * C0 : Nat) : Int)) = ((R : Nat) : Int)
theorem rd_ok {b : UInt8} {k C1 C0 R : Nat} (hk : k ≤ 60) (hb : isDg b) (h1 : C1 < 2 ^ k) (h0 : (dig b * 2 ^ k + C1) / 10 = C0) (hR : (dig b * 2 ^ k + C1) % 10 = R) : Rd b k C1 C0 R := by
  have hd := dig_lt hb
  have hp : 2 ^ k ≤ 2 ^ 60 := Nat.pow_le_pow_right (by decide) hk
  have hm : dig b * 2 ^ k ≤ 9 * 2 ^ 60 := Nat.mul_le_mul (by omega) hp
  have hbn : b.toNat < 256 := UInt8.toNat_lt b
  have hdg : b.toNat = dig b + 48 := by unfold isDg at hb; unfold dig; omega
  refine ⟨u_in (by omega) (by omega), u_nat (by omega) (by omega), ?_, u_nat (by omega) (by omega), ?_, u_nat (by omega) (by omega), u_nat (by omega) (by omega)⟩
  · rw [min64 hk]
    exact u_nat (by simp) (by omega)
  · rw [show (10 : Int) = ((10 : Nat) : Int) from rfl, tdiv_nat, h0]
    exact u_nat rfl (by omega)
/-- What storing one digit reckons. -/
theorem dg_ok {R : Nat} (h : R < 10) : IntKind.u64.wrap ((R : Int) + 48) = ((R + 48 : Nat) : Int) ∧ IntKind.u8.wrap ((R + 48 : Nat) : Int) = ((chr R).toNat : Int) := ⟨u_nat (by omega) (by omega), by rw [chr_nat h]; exact u8_nat rfl (by omega)⟩
set_option maxHeartbeats 8000000 in
set_option maxRecDepth 100000 in
theorem left_fn (a : List UInt8) (nd : Nat) (dp : Int) (ng tr : Bool) (k : Nat) (hok : (Dc.mk a nd dp ng tr).Ok) (hn : 1 ≤ nd) (h1 : 1 ≤ k) (h2 : k ≤ 60) (hd0 : -1000000 ≤ dp) (hd1 : dp ≤ 1000000) (a' : List UInt8) (nd' : Nat) (dp' : Int) (tr' : Bool) (hr : leftD ⟨a, nd, dp, ng, tr⟩ k = ⟨a', nd', dp', ng, tr'⟩) :
    FnO Tryz.prog 130 [.ref 1000 0, u64T k] [(1000, decO a nd dp ng tr)] (.tup []) [(1000, decO a' nd' dp' ng tr')] := by
  have ha := hok.len
  have hnd := hok.nd
  have hdg := hok.dg
  dsimp only at ha hnd hdg
  have hlen : (a.take nd).length = nd := by rw [List.length_take]; omega
  have hbig := (hok.big hn).2.1
  have hD := delta_ok h1 h2 hdg (by rw [hlen]; exact hbig)
  have hch := cheat h1 h2
  unfold leftD Dc.ds trimD at hr
  dsimp only at hr
  generalize hds : a.take nd = ds at *
  generalize hdl : deltaM ds k = dl at *
  generalize hP : vald ds * 2 ^ k = P at *
  rw [hlen] at hD
  obtain ⟨hP1, hP2⟩ := hD
  have hpos := hch.pos
  have hle := hch.len
  have hdl60 : dl ≤ 61 := by
    rw [← hdl]; unfold deltaM; split <;> omega
  have hcs : (cheatC k).length ≤ 9223372036854775807 := by omega
  have hget := cheatL_get h1 h2
  have hpl := pless_fn a nd nd dp ng tr (cheatC k) ha hnd hcs
  rw [hds] at hpl
  have hq : (pless ds (cheatC k) = true ∧ cheatD k = dl + 1) ∨ (pless ds (cheatC k) = false ∧ cheatD k = dl) := by
    rw [← hdl]; unfold deltaM
    cases pless ds (cheatC k)
    · right; exact ⟨rfl, by rw [if_neg (by decide)]⟩
    · left; exact ⟨rfl, by rw [if_pos rfl]; omega⟩
  have hwq : pless ds (cheatC k) = true → IntKind.i64.wrap ((cheatD k : Int) - 1) = ((dl : Nat) : Int) := fun h => by
    rcases hq with ⟨-, q⟩ | ⟨q, -⟩
    · exact i_nat (by omega) (by omega)
    · rw [h] at q; cases q
  have hwq2 : pless ds (cheatC k) = false → cheatD k = dl := fun h => by
    rcases hq with ⟨q, -⟩ | ⟨-, q⟩
    · rw [h] at q; cases q
    · exact q
  have hW : IntKind.i64.wrap ((nd : Int) + (dl : Int)) = ((nd + dl : Nat) : Int) := i_nat (by omega) (by omega)
  have hR : IntKind.i64.wrap ((nd : Int) - 1) = (nd : Int) - 1 := wrap_in (by omega) (by omega)
  generalize cheatD k = q at hget hwq hwq2
  generalize pless ds (cheatC k) = pb at hpl hwq hwq2
  refine FnO.of0 (n := 137) [5012, 5025] fax_ok Tryz.func130 rfl rfl rfl (by rfl) (by rfl) (by kernel_rfl) fun Γ hA hbA hbO => ?_
  skip
  conv => whnf
  have ht : aggOf? Tryz.prog 226 = some (false, 1) := ag226
  refine gen_nil (t_cheat rfl ht) ?_
  (repeat ((conv => whnf); (first | refine lL ?_ | refine exI _ rfl (by assumption) ?_ | refine nA _ rfl ?_)))
  refine gen_nil (t_cheat rfl ht) ?_
  (repeat ((conv => whnf); refine exI _ rfl (by assumption) ?_))
  refine gO [(1000, 1000)] (enters_of Tryz.func137 rfl rfl) hpl ?_
  have hce := carry_end ds k
  rw [hlen] at hce
  have harr : arrM a P (nd + dl) (nd + dl) = a := arrM_start ha
  have hlost : lostM P (nd + dl) (nd + dl) tr = tr := lostM_start _ _ _
  have key : pb = true ∨ pb = false := by cases pb <;> simp
  rcases key with rfl | rfl
  · have hwq := hwq rfl
    clear hwq2
    (repeat ((conv => whnf); (first | with_reducible refine exE (α := Int) _ (by assumption) ?_ | refine tT ?_ | refine oB ?_ | refine lL ?_)))
    refine ev_loop [5012, 5025] fax_ok hA (by kernel_rfl) (fun i : Nat => i ≤ nd) (fun i => [(0, .ref 1000 0), (1, u64T k), (4, intT dl), (5, .d (.v (.int .i64 ((i : Int) - 1)))), (6, intT (i + dl : Nat)), (7, u64T (carryM ds k i))]) (fun i => [(1000, decO (arrM a P (nd + dl) (i + dl)) nd dp ng (lostM P (nd + dl) (i + dl) tr))]) (fun i => i) nd (Nat.le_refl _) (by dsimp only; rw [hce]; exact fiE) (by dsimp only; rw [harr, hlost]; exact fiO) ?_
    rintro i hi - hbO2
    dsimp only
    rcases i with _ | j
    · rw [Nat.zero_add, show carryM ds k 0 = P / 10 ^ nd by rw [carry_top, hP, hlen]]
      have hC : P / 10 ^ nd < 2 ^ 60 := by
        have h1 := carry_lt (ds := ds) (k := k) (i := 0) hdg
        rw [carry_top, hP, hlen] at h1
        exact Nat.lt_of_lt_of_le h1 (Nat.pow_le_pow_right (by decide) h2)
      clear hpl hget hch hok hdg hle hpos hcs hce hbig hdl hwq hq
      (repeat ((conv => whnf); (first | refine exR ?_ | refine tF ?_)))
      refine ev_loop [5012, 5025] fax_ok hA (by kernel_rfl) (fun i : Nat => i ≤ dl) (fun i => [(0, .ref 1000 0), (4, intT dl), (6, intT i), (7, u64T (P / 10 ^ (nd + dl - i)))]) (fun i => [(1000, decO (arrM a P (nd + dl) i) nd dp ng (lostM P (nd + dl) i tr))]) (fun i => i) dl (Nat.le_refl _) (by rw [Nat.add_sub_cancel]; exact fiE) fiO ?_
      rintro i hi - hbO3
      have hN : P / 10 ^ (nd + dl - i) < 2 ^ 60 := Nat.lt_of_le_of_lt (Nat.div_le_div_left (Nat.pow_le_pow_right (by decide) (by omega)) (Nat.pow_pos (by decide))) hC
      rcases i with _ | j
      · rw [show P / 10 ^ (nd + dl - 0) = 0 from (extra_zero hP1 hP2 (Nat.zero_le _)).2 rfl]
        injection hr with e1 e2 e3 e4 e5
        have hal : a'.length = 800 := by rw [← e1]; exact arrM_len _ _ _ _
        rw [e1] at e2 e3 ⊢
        rw [e5]
        have hDp : IntKind.i64.wrap (dp + (dl : Int)) = dp + (dl : Int) := wrap_in (by omega) (by omega)
        clear hP1 hP2 e1 e5 hN hC
        by_cases h8 : 800 ≤ nd + dl
        · rw [Nat.min_eq_right h8] at e2 e3
          have htr := trim_fn a' 800 (dp + dl) ng tr' hal (Nat.le_refl _)
          rw [e2] at htr e3
          rw [e3] at htr
          (repeat ((conv => whnf); (first | with_reducible refine exE (α := Int) _ (by assumption) ?_ | refine exR ?_ | refine gO [(1000, 1000)] (enters_of Tryz.func138 rfl rfl) htr ?_ | refine tT ?_ | refine tF ?_ | refine lL ?_)))
          exact ⟨eN, rS, fiO⟩
        · rw [Nat.min_eq_left (by omega)] at e2 e3
          have htr := trim_fn a' (nd + dl) (dp + dl) ng tr' hal (by omega)
          rw [e2] at htr e3
          rw [e3] at htr
          (repeat ((conv => whnf); (first | with_reducible refine exE (α := Int) _ (by assumption) ?_ | refine exR ?_ | refine gO [(1000, 1000)] (enters_of Tryz.func138 rfl rfl) htr ?_ | refine tF ?_ | refine lL ?_)))
          exact ⟨eN, rS, fiO⟩
      · have hj : j + 1 ≤ dl := hi
        have hpos : 0 < P / 10 ^ (nd + dl - (j + 1)) := Nat.pos_of_ne_zero fun h0 => by
          have := (extra_zero hP1 hP2 (show j + 1 ≤ nd + dl by omega)).1 h0
          omega
        have h10 := extra_step (P := P) (L := nd + dl) (w := j) (by omega)
        have hmod := left_extra (P := P) (L := nd + dl) (i := j) (by omega)
        have hset : j < 800 → (arrM a P (nd + dl) (j + 1)).set j (chr (P / 10 ^ (nd + dl - 1 - j) % 10)) = arrM a P (nd + dl) j := fun h => arrM_set (by omega) h
        have hRlt : P / 10 ^ (nd + dl - 1 - j) % 10 < 10 := Nat.mod_lt _ (by decide)
        obtain ⟨d1, d2⟩ := dg_ok hRlt
        have c5 : IntKind.u64.wrap (((P / 10 ^ (nd + dl - (j + 1)) : Nat) : Int).tdiv 10) = ((P / 10 ^ (nd + dl - j) : Nat) : Int) := by
          rw [show (10 : Int) = ((10 : Nat) : Int) from rfl, tdiv_nat, h10]
          exact u_nat rfl (by omega)
        have w1 : IntKind.i64.wrap (((j + 1 : Nat) : Int) - 1) = ((j : Nat) : Int) := i_nat (by omega) (by omega)
        have hAl := arrM_len a P (nd + dl) (j + 1)
        have hj8 : j < 800 := by omega
        have hset := hset hj8
        have hT1 := lostM_in (P := P) (L := nd + dl) (tr := tr) hj8
        generalize hN0 : P / 10 ^ (nd + dl - j) = N0 at *
        generalize P / 10 ^ (nd + dl - (j + 1)) = N1 at *
        generalize P / 10 ^ (nd + dl - 1 - j) % 10 = R at *
        generalize arrM a P (nd + dl) (j + 1) = A1 at *
        generalize lostM P (nd + dl) (j + 1) tr = T1 at *
        have c6 : IntKind.u64.wrap (10 * (N0 : Int)) = ((10 * N0 : Nat) : Int) := u_nat (by omega) (by omega)
        have c7 : IntKind.u64.wrap ((N1 : Int) - ((10 * N0 : Nat) : Int)) = ((R : Nat) : Int) := u_nat (by omega) (by omega)
        clear hP1 hP2 hr hC
        (repeat ((conv => whnf); (first | with_reducible refine exE (α := Int) _ (by assumption) ?_ | refine exR ?_ | refine tT ?_ | refine And.intro (a := _ ≠ _) (by decide) ?_ | refine exA _ rfl (by omega) ?_)))
        refine xS8 (chr R) rfl (by omega) ?_
        skip
        exact ⟨j, by omega, by omega, (by rw [hN0]; exact fiE), (by dsimp only; rw [← hset, ← hT1]; exact fiO)⟩
    · rw [show (((j + 1 : Nat) : Int) - 1) = (j : Int) by omega]
      have hj : j < nd := hi
      have hdj : j < ds.length := by omega
      have hgb := dec_get (a := a) (i := j) (by omega)
      have hdsj : ds[j] = a.getD j 0 := by
        have : (a.take nd)[j]? = a[j]? := by rw [List.getElem?_take, if_pos hj]
        rw [hds, hgb, List.getElem?_eq_getElem hdj] at this
        exact Option.some.inj this
      have hbd : isDg (a.getD j 0) := by rw [← hdsj]; exact hdg _ (List.getElem_mem hdj)
      have hs1 := carry_step (ds := ds) (k := k) hdj
      have hs2 := carry_rem (ds := ds) (k := k) (dl := dl) hdj
      rw [hdsj] at hs1 hs2
      rw [hP, hlen] at hs2
      have hA1b : (arrM a P (nd + dl) (j + 1 + dl))[j]? = some (a.getD j 0) := by
        rw [arrM_get (by omega), if_neg (by omega)]
      have hset : j + dl < 800 → (arrM a P (nd + dl) (j + 1 + dl)).set (j + dl) (chr (P / 10 ^ (nd + dl - 1 - (j + dl)) % 10)) = arrM a P (nd + dl) (j + dl) := fun h => by
        rw [show j + 1 + dl = j + dl + 1 by omega]; exact arrM_set (by omega) h
      have hRlt : P / 10 ^ (nd + dl - 1 - (j + dl)) % 10 < 10 := Nat.mod_lt _ (by decide)
      have hAl := arrM_len a P (nd + dl) (j + 1 + dl)
      have hout : ¬ j + dl < 800 → arrM a P (nd + dl) (j + 1 + dl) = arrM a P (nd + dl) (j + dl) := fun h => by rw [show j + 1 + dl = j + dl + 1 by omega]; exact arrM_out h
      have hT1 : j + dl < 800 → lostM P (nd + dl) (j + 1 + dl) tr = lostM P (nd + dl) (j + dl) tr := fun h => by rw [show j + 1 + dl = j + dl + 1 by omega]; exact lostM_in h
      have hT2 : ¬ j + dl < 800 → lostM P (nd + dl) (j + dl) tr = if P / 10 ^ (nd + dl - 1 - (j + dl)) % 10 ≠ 0 then true else lostM P (nd + dl) (j + 1 + dl) tr := fun h => by rw [show j + 1 + dl = j + dl + 1 by omega]; exact lostM_out (by omega) h
      obtain ⟨r1, r2, r3, r4, r5, r6, r7⟩ := rd_ok h2 hbd (carry_lt hdg) hs1 hs2
      obtain ⟨d1, d2⟩ := dg_ok hRlt
      have w1 : IntKind.i64.wrap (((j + 1 + dl : Nat) : Int) - 1) = ((j + dl : Nat) : Int) := i_nat (by omega) (by omega)
      have w2 : IntKind.i64.wrap ((j : Int) - 1) = (j : Int) - 1 := wrap_in (by omega) (by omega)
      generalize carryM ds k (j + 1) = C1 at *
      generalize hC0 : carryM ds k j = C0 at *
      generalize a.getD j 0 = b at *
      generalize P / 10 ^ (nd + dl - 1 - (j + dl)) % 10 = R at *
      generalize arrM a P (nd + dl) (j + 1 + dl) = A1 at *
      generalize lostM P (nd + dl) (j + 1 + dl) tr = T1 at *
      clear hs1 hs2 hP1 hP2 hbig hr hpl hget hch hok hdg hdsj hgb hle hpos hcs hq hce
      (repeat ((conv => whnf); (first | refine exR ?_ | refine tT ?_ | refine exA _ rfl (by omega) ?_)))
      refine xB8 b hA1b ?_
      (repeat ((conv => whnf); (first | with_reducible refine exE (α := Int) _ (by assumption) ?_ | refine exR ?_ | refine And.intro (a := _ ≠ _) (by decide) ?_ | refine zQ ?_)))
      by_cases hlt : j + dl < 800
      · have hset := hset hlt
        have hT1 := hT1 hlt
        (repeat ((conv => whnf); (first | with_reducible refine exE (α := Int) _ (by assumption) ?_ | refine tT ?_ | refine exA _ rfl (by omega) ?_)))
        refine xS8 (chr R) rfl (by omega) ?_
        (repeat ((conv => whnf); with_reducible refine exE (α := Int) _ (by assumption) ?_))
        exact ⟨j, by omega, by omega, (by dsimp only; rw [hC0]; exact fiE), (by dsimp only; rw [← hset, ← hT1]; exact fiO)⟩
      · have hout := hout hlt
        have hT2 := hT2 hlt
        by_cases hR0 : R = 0
        · have hn : ((R : Int) != 0) = false := by rw [hR0]; rfl
          rw [if_neg (by omega)] at hT2
          (repeat ((conv => whnf); (first | with_reducible refine exE (α := Int) _ (by assumption) ?_ | refine exR ?_ | refine tF ?_)))
          exact ⟨j, by omega, by omega, (by dsimp only; rw [hC0]; exact fiE), (by dsimp only; rw [← hout, hT2]; exact fiO)⟩
        · have hn : ((R : Int) != 0) = true := bne_iff_ne.2 (by omega)
          rw [if_pos hR0] at hT2
          (repeat ((conv => whnf); (first | with_reducible refine exE (α := Int) _ (by assumption) ?_ | refine exR ?_ | refine tT ?_ | refine tF ?_ | refine lL ?_)))
          exact ⟨j, by omega, by omega, (by dsimp only; rw [hC0]; exact fiE), (by dsimp only; rw [← hout, hT2]; exact fiO)⟩
  · have e := (hwq2 rfl).symm
    subst e
    clear hwq2
    (repeat ((conv => whnf); (first | with_reducible refine exE (α := Int) _ (by assumption) ?_ | refine tF ?_ | refine oB ?_ | refine lL ?_)))
    refine ev_loop [5012, 5025] fax_ok hA (by kernel_rfl) (fun i : Nat => i ≤ nd) (fun i => [(0, .ref 1000 0), (1, u64T k), (4, intT dl), (5, .d (.v (.int .i64 ((i : Int) - 1)))), (6, intT (i + dl : Nat)), (7, u64T (carryM ds k i))]) (fun i => [(1000, decO (arrM a P (nd + dl) (i + dl)) nd dp ng (lostM P (nd + dl) (i + dl) tr))]) (fun i => i) nd (Nat.le_refl _) (by dsimp only; rw [hce]; exact fiE) (by dsimp only; rw [harr, hlost]; exact fiO) ?_
    rintro i hi - hbO2
    dsimp only
    rcases i with _ | j
    · rw [Nat.zero_add, show carryM ds k 0 = P / 10 ^ nd by rw [carry_top, hP, hlen]]
      have hC : P / 10 ^ nd < 2 ^ 60 := by
        have h1 := carry_lt (ds := ds) (k := k) (i := 0) hdg
        rw [carry_top, hP, hlen] at h1
        exact Nat.lt_of_lt_of_le h1 (Nat.pow_le_pow_right (by decide) h2)
      clear hpl hget hch hok hdg hle hpos hcs hce hbig hdl hwq hq
      (repeat ((conv => whnf); (first | refine exR ?_ | refine tF ?_)))
      refine ev_loop [5012, 5025] fax_ok hA (by kernel_rfl) (fun i : Nat => i ≤ dl) (fun i => [(0, .ref 1000 0), (4, intT dl), (6, intT i), (7, u64T (P / 10 ^ (nd + dl - i)))]) (fun i => [(1000, decO (arrM a P (nd + dl) i) nd dp ng (lostM P (nd + dl) i tr))]) (fun i => i) dl (Nat.le_refl _) (by rw [Nat.add_sub_cancel]; exact fiE) fiO ?_
      rintro i hi - hbO3
      have hN : P / 10 ^ (nd + dl - i) < 2 ^ 60 := Nat.lt_of_le_of_lt (Nat.div_le_div_left (Nat.pow_le_pow_right (by decide) (by omega)) (Nat.pow_pos (by decide))) hC
      rcases i with _ | j
      · rw [show P / 10 ^ (nd + dl - 0) = 0 from (extra_zero hP1 hP2 (Nat.zero_le _)).2 rfl]
        injection hr with e1 e2 e3 e4 e5
        have hal : a'.length = 800 := by rw [← e1]; exact arrM_len _ _ _ _
        rw [e1] at e2 e3 ⊢
        rw [e5]
        have hDp : IntKind.i64.wrap (dp + (dl : Int)) = dp + (dl : Int) := wrap_in (by omega) (by omega)
        clear hP1 hP2 e1 e5 hN hC
        by_cases h8 : 800 ≤ nd + dl
        · rw [Nat.min_eq_right h8] at e2 e3
          have htr := trim_fn a' 800 (dp + dl) ng tr' hal (Nat.le_refl _)
          rw [e2] at htr e3
          rw [e3] at htr
          (repeat ((conv => whnf); (first | with_reducible refine exE (α := Int) _ (by assumption) ?_ | refine exR ?_ | refine gO [(1000, 1000)] (enters_of Tryz.func138 rfl rfl) htr ?_ | refine tT ?_ | refine tF ?_ | refine lL ?_)))
          exact ⟨eN, rS, fiO⟩
        · rw [Nat.min_eq_left (by omega)] at e2 e3
          have htr := trim_fn a' (nd + dl) (dp + dl) ng tr' hal (by omega)
          rw [e2] at htr e3
          rw [e3] at htr
          (repeat ((conv => whnf); (first | with_reducible refine exE (α := Int) _ (by assumption) ?_ | refine exR ?_ | refine gO [(1000, 1000)] (enters_of Tryz.func138 rfl rfl) htr ?_ | refine tF ?_ | refine lL ?_)))
          exact ⟨eN, rS, fiO⟩
      · have hj : j + 1 ≤ dl := hi
        have hpos : 0 < P / 10 ^ (nd + dl - (j + 1)) := Nat.pos_of_ne_zero fun h0 => by
          have := (extra_zero hP1 hP2 (show j + 1 ≤ nd + dl by omega)).1 h0
          omega
        have h10 := extra_step (P := P) (L := nd + dl) (w := j) (by omega)
        have hmod := left_extra (P := P) (L := nd + dl) (i := j) (by omega)
        have hset : j < 800 → (arrM a P (nd + dl) (j + 1)).set j (chr (P / 10 ^ (nd + dl - 1 - j) % 10)) = arrM a P (nd + dl) j := fun h => arrM_set (by omega) h
        have hRlt : P / 10 ^ (nd + dl - 1 - j) % 10 < 10 := Nat.mod_lt _ (by decide)
        obtain ⟨d1, d2⟩ := dg_ok hRlt
        have c5 : IntKind.u64.wrap (((P / 10 ^ (nd + dl - (j + 1)) : Nat) : Int).tdiv 10) = ((P / 10 ^ (nd + dl - j) : Nat) : Int) := by
          rw [show (10 : Int) = ((10 : Nat) : Int) from rfl, tdiv_nat, h10]
          exact u_nat rfl (by omega)
        have w1 : IntKind.i64.wrap (((j + 1 : Nat) : Int) - 1) = ((j : Nat) : Int) := i_nat (by omega) (by omega)
        have hAl := arrM_len a P (nd + dl) (j + 1)
        have hj8 : j < 800 := by omega
        have hset := hset hj8
        have hT1 := lostM_in (P := P) (L := nd + dl) (tr := tr) hj8
        generalize hN0 : P / 10 ^ (nd + dl - j) = N0 at *
        generalize P / 10 ^ (nd + dl - (j + 1)) = N1 at *
        generalize P / 10 ^ (nd + dl - 1 - j) % 10 = R at *
        generalize arrM a P (nd + dl) (j + 1) = A1 at *
        generalize lostM P (nd + dl) (j + 1) tr = T1 at *
        have c6 : IntKind.u64.wrap (10 * (N0 : Int)) = ((10 * N0 : Nat) : Int) := u_nat (by omega) (by omega)
        have c7 : IntKind.u64.wrap ((N1 : Int) - ((10 * N0 : Nat) : Int)) = ((R : Nat) : Int) := u_nat (by omega) (by omega)
        clear hP1 hP2 hr hC
        (repeat ((conv => whnf); (first | with_reducible refine exE (α := Int) _ (by assumption) ?_ | refine exR ?_ | refine tT ?_ | refine And.intro (a := _ ≠ _) (by decide) ?_ | refine exA _ rfl (by omega) ?_)))
        refine xS8 (chr R) rfl (by omega) ?_
        skip
        exact ⟨j, by omega, by omega, (by rw [hN0]; exact fiE), (by dsimp only; rw [← hset, ← hT1]; exact fiO)⟩
    · rw [show (((j + 1 : Nat) : Int) - 1) = (j : Int) by omega]
      have hj : j < nd := hi
      have hdj : j < ds.length := by omega
      have hgb := dec_get (a := a) (i := j) (by omega)
      have hdsj : ds[j] = a.getD j 0 := by
        have : (a.take nd)[j]? = a[j]? := by rw [List.getElem?_take, if_pos hj]
        rw [hds, hgb, List.getElem?_eq_getElem hdj] at this
        exact Option.some.inj this
      have hbd : isDg (a.getD j 0) := by rw [← hdsj]; exact hdg _ (List.getElem_mem hdj)
      have hs1 := carry_step (ds := ds) (k := k) hdj
      have hs2 := carry_rem (ds := ds) (k := k) (dl := dl) hdj
      rw [hdsj] at hs1 hs2
      rw [hP, hlen] at hs2
      have hA1b : (arrM a P (nd + dl) (j + 1 + dl))[j]? = some (a.getD j 0) := by
        rw [arrM_get (by omega), if_neg (by omega)]
      have hset : j + dl < 800 → (arrM a P (nd + dl) (j + 1 + dl)).set (j + dl) (chr (P / 10 ^ (nd + dl - 1 - (j + dl)) % 10)) = arrM a P (nd + dl) (j + dl) := fun h => by
        rw [show j + 1 + dl = j + dl + 1 by omega]; exact arrM_set (by omega) h
      have hRlt : P / 10 ^ (nd + dl - 1 - (j + dl)) % 10 < 10 := Nat.mod_lt _ (by decide)
      have hAl := arrM_len a P (nd + dl) (j + 1 + dl)
      have hout : ¬ j + dl < 800 → arrM a P (nd + dl) (j + 1 + dl) = arrM a P (nd + dl) (j + dl) := fun h => by rw [show j + 1 + dl = j + dl + 1 by omega]; exact arrM_out h
      have hT1 : j + dl < 800 → lostM P (nd + dl) (j + 1 + dl) tr = lostM P (nd + dl) (j + dl) tr := fun h => by rw [show j + 1 + dl = j + dl + 1 by omega]; exact lostM_in h
      have hT2 : ¬ j + dl < 800 → lostM P (nd + dl) (j + dl) tr = if P / 10 ^ (nd + dl - 1 - (j + dl)) % 10 ≠ 0 then true else lostM P (nd + dl) (j + 1 + dl) tr := fun h => by rw [show j + 1 + dl = j + dl + 1 by omega]; exact lostM_out (by omega) h
      obtain ⟨r1, r2, r3, r4, r5, r6, r7⟩ := rd_ok h2 hbd (carry_lt hdg) hs1 hs2
      obtain ⟨d1, d2⟩ := dg_ok hRlt
      have w1 : IntKind.i64.wrap (((j + 1 + dl : Nat) : Int) - 1) = ((j + dl : Nat) : Int) := i_nat (by omega) (by omega)
      have w2 : IntKind.i64.wrap ((j : Int) - 1) = (j : Int) - 1 := wrap_in (by omega) (by omega)
      generalize carryM ds k (j + 1) = C1 at *
      generalize hC0 : carryM ds k j = C0 at *
      generalize a.getD j 0 = b at *
      generalize P / 10 ^ (nd + dl - 1 - (j + dl)) % 10 = R at *
      generalize arrM a P (nd + dl) (j + 1 + dl) = A1 at *
      generalize lostM P (nd + dl) (j + 1 + dl) tr = T1 at *
      clear hs1 hs2 hP1 hP2 hbig hr hpl hget hch hok hdg hdsj hgb hle hpos hcs hq hce
      (repeat ((conv => whnf); (first | refine exR ?_ | refine tT ?_ | refine exA _ rfl (by omega) ?_)))
      refine xB8 b hA1b ?_
      (repeat ((conv => whnf); (first | with_reducible refine exE (α := Int) _ (by assumption) ?_ | refine exR ?_ | refine And.intro (a := _ ≠ _) (by decide) ?_ | refine zQ ?_)))
      by_cases hlt : j + dl < 800
      · have hset := hset hlt
        have hT1 := hT1 hlt
        (repeat ((conv => whnf); (first | with_reducible refine exE (α := Int) _ (by assumption) ?_ | refine tT ?_ | refine exA _ rfl (by omega) ?_)))
        refine xS8 (chr R) rfl (by omega) ?_
        (repeat ((conv => whnf); with_reducible refine exE (α := Int) _ (by assumption) ?_))
        exact ⟨j, by omega, by omega, (by dsimp only; rw [hC0]; exact fiE), (by dsimp only; rw [← hset, ← hT1]; exact fiO)⟩
      · have hout := hout hlt
        have hT2 := hT2 hlt
        by_cases hR0 : R = 0
        · have hn : ((R : Int) != 0) = false := by rw [hR0]; rfl
          rw [if_neg (by omega)] at hT2
          (repeat ((conv => whnf); (first | with_reducible refine exE (α := Int) _ (by assumption) ?_ | refine exR ?_ | refine tF ?_)))
          exact ⟨j, by omega, by omega, (by dsimp only; rw [hC0]; exact fiE), (by dsimp only; rw [← hout, hT2]; exact fiO)⟩
        · have hn : ((R : Int) != 0) = true := bne_iff_ne.2 (by omega)
          rw [if_pos hR0] at hT2
          (repeat ((conv => whnf); (first | with_reducible refine exE (α := Int) _ (by assumption) ?_ | refine exR ?_ | refine tT ?_ | refine tF ?_ | refine lL ?_)))
          exact ⟨j, by omega, by omega, (by dsimp only; rw [hC0]; exact fiE), (by dsimp only; rw [← hout, hT2]; exact fiO)⟩
end Go.Proofs.YtngklbnodknadaaGreatDoor
end

section
namespace Go.Proofs.YtngklbnodknadaaGreatDoor

theorem get_ex {α : Type} {l : List α} {i : Nat} (h : i < l.length) : ∃ c, l[i]? = some c := ⟨l[i], List.getElem?_eq_getElem h⟩
structure Rf where
  (mant nd nm : Nat) (dp : Int) (dot dg tr : Bool)
def rfS (s : Rf) (c : UInt8) : Rf :=
  if c = 46 then ⟨s.mant, s.nd, s.nm, (s.nd : Int), true, s.dg, s.tr⟩
  else if c = 48 ∧ s.nd = 0 then ⟨s.mant, s.nd, s.nm, s.dp - 1, s.dot, true, s.tr⟩
  else if s.nm < 19 then ⟨s.mant * 10 + dig c, s.nd + 1, s.nm + 1, s.dp, s.dot, true, s.tr⟩
  else ⟨s.mant, s.nd + 1, s.nm, s.dp, s.dot, true, if c = 48 then s.tr else true⟩
theorem rfS_dot (M nd nm : Nat) (p : Int) (dot dg t : Bool) : rfS ⟨M, nd, nm, p, dot, dg, t⟩ 46 = ⟨M, nd, nm, (nd : Int), true, dg, t⟩ := by unfold rfS; rw [if_pos rfl]
theorem rfS_zero {c : UInt8} {M nd nm : Nat} {p : Int} {dot dg t : Bool} (h : c ≠ 46) (h0 : c = 48 ∧ nd = 0) : rfS ⟨M, nd, nm, p, dot, dg, t⟩ c = ⟨M, nd, nm, p - 1, dot, true, t⟩ := by unfold rfS; rw [if_neg h, if_pos h0]
theorem rfS_in {c : UInt8} {M nd nm : Nat} {p : Int} {dot dg t : Bool} (h : c ≠ 46) (h0 : ¬ (c = 48 ∧ nd = 0)) (h1 : nm < 19) : rfS ⟨M, nd, nm, p, dot, dg, t⟩ c = ⟨M * 10 + dig c, nd + 1, nm + 1, p, dot, true, t⟩ := by unfold rfS; rw [if_neg h, if_neg h0, if_pos h1]
theorem rfS_out {c : UInt8} {M nd nm : Nat} {p : Int} {dot dg t : Bool} (h : c ≠ 46) (h0 : ¬ (c = 48 ∧ nd = 0)) (h1 : ¬ nm < 19) : rfS ⟨M, nd, nm, p, dot, dg, t⟩ c = ⟨M, nd + 1, nm, p, dot, true, if c = 48 then t else true⟩ := by unfold rfS; rw [if_neg h, if_neg h0, if_neg h1]
def rf0 : Rf := ⟨0, 0, 0, 0, false, false, false⟩
def rfM (s : List UInt8) : Rf := s.foldl rfS rf0
/-- Digits, a point, digits. -/
structure NumS (s : List UInt8) (k : Nat) : Prop where
  one : 1 ≤ k
  two : k + 1 < s.length
  dot : s[k]? = some 46
  dg : ∀ (i : Nat) (c : UInt8), s[i]? = some c → i ≠ k → isDg c
/-- What is so behind i bytes. -/
structure RfOk (k i : Nat) (r : Rf) : Prop where
  nm : r.nm ≤ 19
  mant : r.mant < 10 ^ r.nm
  nd : r.nd ≤ i
  le : r.nm ≤ r.nd
  lo : -(i : Int) ≤ r.dp
  hi : r.dp ≤ i
  dot : r.dot = decide (k < i)
  dg : 1 ≤ i → r.dg = true
theorem rf_step {s : List UInt8} {k i : Nat} {r : Rf} {c : UInt8} (hs : NumS s k) (hc : s[i]? = some c) (h : RfOk k i r) : RfOk k (i + 1) (rfS r c) := by
  obtain ⟨h1, h2, h3, h4, h5, h6, h7, h8⟩ := h
  unfold rfS
  by_cases hk : i = k
  · subst hk
    have : c = 46 := by have := hs.dot; rw [hc] at this; exact Option.some.inj this
    rw [if_pos this]
    have := hs.one
    exact ⟨h1, h2, Nat.le_succ_of_le h3, h4, by dsimp only; omega, by dsimp only; omega, by simp, fun _ => h8 (by omega)⟩
  · have hd := hs.dg i c hc hk
    have h46 : c ≠ 46 := by rintro rfl; revert hd; unfold isDg; decide
    rw [if_neg h46]
    have e7 : decide (k < i) = decide (k < i + 1) := by
      by_cases q : k < i
      · rw [decide_eq_true q, decide_eq_true (by omega)]
      · rw [decide_eq_false q, decide_eq_false (by omega)]
    split
    · exact ⟨h1, h2, Nat.le_succ_of_le h3, h4, by dsimp only; omega, by dsimp only; omega, h7.trans e7, fun _ => rfl⟩
    · split
      · next h19 =>
        have hl := dig_lt hd
        refine ⟨by dsimp only; omega, ?_, by dsimp only; omega, by dsimp only; omega, by dsimp only; omega, by dsimp only; omega, h7.trans e7, fun _ => rfl⟩
        show r.mant * 10 + dig c < 10 ^ (r.nm + 1)
        rw [Nat.pow_succ]
        omega
      · exact ⟨h1, h2, by dsimp only; omega, by dsimp only; omega, by dsimp only; omega, by dsimp only; omega, h7.trans e7, fun _ => rfl⟩
theorem rf_zero (k : Nat) : RfOk k 0 rf0 := ⟨by decide, by decide, Nat.le_refl _, Nat.le_refl _, by decide, by decide, by simp [rf0], fun h => absurd h (by decide)⟩
theorem rf_take {s : List UInt8} {i : Nat} {c : UInt8} (hc : s[i]? = some c) : (s.take (i + 1)).foldl rfS rf0 = rfS ((s.take i).foldl rfS rf0) c := by
  rw [List.take_add_one, hc, Option.toList_some, List.foldl_append]
  rfl
theorem rf_ok {s : List UInt8} {k : Nat} (hs : NumS s k) : ∀ i, i ≤ s.length → RfOk k i ((s.take i).foldl rfS rf0)
  | 0, _ => rf_zero k
  | i + 1, h => by
    have hc : s[i]? = some s[i] := List.getElem?_eq_getElem (by omega)
    rw [rf_take hc]
    exact rf_step hs hc (rf_ok hs i (by omega))
/-- What readFloat tells. -/
def rfE (r : Rf) : Int := if r.mant = 0 then 0 else r.dp - r.nm
end Go.Proofs.YtngklbnodknadaaGreatDoor
end

section
namespace Go.Proofs.YtngklbnodknadaaGreatDoor
open Go.RowKit
section
variable {P : Program} {o : Oper} {σ : Nat → T} {Γ : Cx} {objs : Objs}
theorem t_gload {n : Nat} {x : Value} {t : TypeId} {kk : Nat} (ho : o.op = .load t (.global n)) (ht : aggOf? P t = some (false, kk)) (hp : (n, (· = [x])) ∈ tabs) (h1 : x.oneCell' = true) : Tri P o σ [] (.d (.v x)) [] :=
  .val fun _ g _ a w _ _ hw => by
    obtain ⟨cs, t', fr, h0, h2⟩ := hw.fr.tabs.one _ hp
    have h0 : cs = [x] := h0
    subst h0
    have hc : w.cell? ⟨n, 0, none⟩ = some x := by simp [World.cell?, h2]
    exact ⟨x, by unfold execOp; rw [ho]; simp [Act.eval, load_run ht hc], rep_v h1⟩
theorem t_gindex {n m k j : Nat} {kd : IntKind} {cs : List Value} {ds : List D} {t : TypeId} {i : Operand} (ho : o.op = .indexAddr t (.global n) i) (ht : arrOf? P t = some (m, k)) (hi : opT σ i = .d (.v (.int kd j))) (hj : j < m) (hp : (n, (· = cs)) ∈ tabs) (hds : ∀ S, RepDs S ds cs) : Tri P o σ [] (.pi (ds.drop (j * k))) [] := by
  intro Γ g objs a w Q hr _ hw
  obtain ⟨cs', t', fr, h0, h2⟩ := hw.fr.tabs.one _ hp
  have h0 : cs' = cs := h0
  subst h0
  obtain ⟨k1, k2⟩ := hw.frzB (b0 := n) (.inl ⟨_, hp, rfl⟩)
  have e2 := rep_op hr (x := i) (by rw [ho]; simp [Op.operands])
  rw [hi] at e2
  obtain ⟨e, inf, hu, hinf, hsz⟩ := arr_spec ht
  have hrun : (execOp a.eval o).run P w = .ok (.value (.pointer (some ⟨n, 0 + j * k, none⟩))) w := by
    have eg : a.eval (.global n) = .pointer (some ⟨n, 0, none⟩) := rfl
    unfold execOp
    rw [ho]
    simp [eg, Instr.indexAt, inv_v e2, asIntOf, run_underlying hu, hj, Instr.sureAddr, sizeOf, typeInfo, hinf, hsz, add_lit']
  unfold Oper.wp
  rw [hrun]
  refine ⟨_, _, rfl, k1, RepT.pi ((hds _).drop (j * k)) fun q hq => ?_, k2⟩
  show frzS g.S w _ n (0 + j * k + q) = _
  unfold frzS
  rw [if_pos rfl, List.getElem?_drop, Nat.zero_add]
  simp [World.cell?, h2]
theorem WI.cxg {X X' : Nat → Prop} {w0 w : World} {g0 g0' g : Gh} {A : Nat → Prop} {ht : TabsIn w0} {hx : ∀ b, TabB w0 b → ¬ X b} {hx' : ∀ b, TabB w0 b → ¬ X' b} (e : X' = X) (h : WI ⟨X, w0, g0, A, ht, hx, []⟩ g objs w) (ho : ∀ b o, ¬ TabB w0 b → g0'.S b o = g0.S b o) (hext : GLe A g0' g) : WI ⟨X', w0, g0', A, ht, hx', []⟩ g objs w := by
  subst e
  refine ⟨h.imm, fun i ob hi => ?_, h.apart, ⟨h.fr.os, h.fr.tape, h.fr.output, h.fr.size, h.fr.block⟩, fun b o hb hX hT => (h.old b o hb hX hT).trans (ho b o hT).symm, hext⟩
  have := h.obj i ob hi
  cases ob <;> exact this
/-- A pointer to a table, handed on. -/
theorem FnO.glob {f : FuncId} {args args' : List T} {pre post : Ob} {res : T} {n : Nat} {cs : List Value} (hp : (n, (· = cs)) ∈ tabs) (h : FnO P f args pre res post) (hle : ∀ (g : Gh) (vs : List Value), (∀ q, q < cs.length → g.S n q = cs[q]?) → Reps g args' vs → Reps g args vs) : FnO P f args' pre res post := by
  intro w g vs ht hx hw hr
  obtain ⟨k1, k2⟩ := hw.frzB (b0 := n) (.inl ⟨_, hp, rfl⟩)
  obtain ⟨cs', t', fr, h0, h2⟩ := ht.one _ hp
  have h0 : cs' = cs := h0
  subst h0
  generalize hg' : (⟨frzS g.S w (· = n), g.blk, g.row, g.len⟩ : Gh) = g' at k1 k2
  have hblk : ∀ (i : Nat) (ob : GObj), ob.blk g' i = ob.blk g i := fun i ob => by rw [← hg']; exact blk_same rfl rfl ob
  have eX : (fun b => ∃ i ob, objL pre i = some ob ∧ ob.blk g' i b) = (fun b => ∃ i ob, objL pre i = some ob ∧ ob.blk g i b) := by
    funext b
    simp only [hblk]
  have hx' : ∀ b, TabB w b → ¬ lentX g' pre b := fun b hb hl => hx b hb (by
    obtain ⟨i, ob, q1, q2⟩ := hl
    exact ⟨i, ob, q1, by rw [← hblk]; exact q2⟩)
  have hS : ∀ b o, ¬ TabB w b → g'.S b o = g.S b o := fun b o hb => by
    rw [← hg']
    show frzS g.S w (· = n) b o = g.S b o
    unfold frzS
    rw [if_neg (fun e : b = n => hb (by rw [e]; exact .inl ⟨_, hp, rfl⟩))]
  have hin := k2.cxg (X' := fun b => ∃ i ob, objL pre i = some ob ∧ ob.blk g' i b) (g0' := g') (hx' := hx') eX hS ⟨SLe.refl _, fun _ _ _ => rfl, fun _ _ => Nat.le_refl _, fun _ _ _ => rfl⟩
  have hcell : ∀ q, q < cs'.length → g'.S n q = cs'[q]? := fun q _ => by
    rw [← hg']
    show frzS g.S w (· = n) n q = cs'[q]?
    unfold frzS
    rw [if_pos rfl]
    simp [World.cell?, h2]
  refine (h w g' vs ht hx' hin (hle g' vs hcell (hr.mono k1 fun _ _ => trivial))).mono ?_
  rintro e w' ⟨v, g'', rfl, q1, q2⟩
  exact ⟨v, g'', rfl, q1, q2.cxg eX.symm (fun b o hb => (hS b o hb).symm) ((k1.weak fun _ _ => trivial).trans q2.ext)⟩
/-- A function without a body. -/
theorem t_ext {f : FuncId} {fn : Func} {e : Array Value → Sem Value} {x : Operand} {v r : Value} {ts : Array TypeId} (ho : o.op = .call { callee := .value (.func f), args := #[x], argTypes := ts }) (hf : P.funcs[f]? = some fn) (hname : (fn.name == "runtime.NumGoroutine") = false) (hb : fn.body.isNone = true) (hn : Extern.findNext fn = none) (he : Extern.find fn = some e)
    (hx : opT σ x = .d (.v v)) (hr : ∀ w, (e #[v]).run P w = .ok r w) (h1 : r.oneCell' = true) : Tri P o σ [] (.d (.v r)) [] :=
  .val fun _ g _ a w hrp _ _ => by
    have e1 := hrp x (by rw [ho]; simp [Op.operands, Call.operands])
    rw [hx] at e1
    refine ⟨r, ?_, rep_v h1⟩
    have hc : (callFunc f #[v]).run P w = .ok (.value r) w := by rw [run_callFunc_extern hf hname hb hn he, hr]; rfl
    have eg : a.eval (.func f) = .func (.func f) #[] #[] := rfl
    unfold execOp; rw [ho]
    simp [resolve, invoke, inv_v e1, eg, Deferred.ofValue, hc]
theorem t_i2f {src dst : TypeId} {x : Operand} {k : IntKind} {k' : FloatKind} {a : Int} (ho : o.op = .convert src dst x) (hs : P.underlying src = some (.int k)) (hd : P.underlying dst = some (.float k')) (hx : opT σ x = .d (.v (.int k a))) : Tri P o σ [] (.d (.v (.float k' (k'.nearest a)))) [] :=
  .val fun _ g _ ac w hrp _ _ => ⟨.float k' (k'.nearest a), by
    have e1 := hrp x (by rw [ho]; simp [Op.operands])
    rw [hx] at e1
    unfold execOp; rw [ho]
    simp [inv_v e1, convert, run_underlying hs, run_underlying hd, Conv.intToFloat], rep_v rfl⟩
end
end Go.Proofs.YtngklbnodknadaaGreatDoor
end

section
namespace Go.Proofs.YtngklbnodknadaaGreatDoor
open Go.RowKit
section
variable {P : Program} {F : Fax} {Γ : Cx} {n : Nat}
theorem ev_loopX (V : List Nat) {c : Code} {E : En} {L : Ob} {Q : QE} (hF : FaxOK P F) (hA : ∀ i, i < 1000 → ¬ Γ.A i) (hok : okC n c = true) {ι : Type} (I : ι → Prop) (st : ι → En) (ob : ι → Ob) (μ : ι → Nat) (id : Nat) (X : ι → Prop) (sx : ι → En) (ox : ι → Ob) (i0 : ι) (hi0 : I i0) (h0 : FitE E (st i0)) (ho0 : FitO L (ob i0))
    (round : ∀ i, I i → bdE (st i) (st i) → bdO (ob i) (ob i) → evC P F V Γ n c (st i) (ob i) fun e E' L' => match e with | .normal => ∃ j, I j ∧ μ j < μ i ∧ FitE E' (st j) ∧ FitO L' (ob j) | .exit k => k = id ∧ ∃ j, I j ∧ X j ∧ FitE E' (sx j) ∧ FitO L' (ox j) | _ => False)
    (after : ∀ i, I i → X i → Q (.exit id) (sx i) (ox i)) : LoopW P Γ n c E L Q := by
  refine ⟨?_⟩
  refine AW.loop I (fun i => sl (st i)) (fun i => obE (ob i)) μ i0 hi0 h0.le ho0.le fun i hi => ?_
  refine AW.bd fun hb hb' => (evC_AW hF hA hok (round i hi hb hb')).mono fun e σ objs hl => ?_
  obtain ⟨E', L', h1, h2, h3⟩ := hl
  cases e with
  | normal =>
    obtain ⟨j, hj, hm, hE, hO⟩ := h3
    exact ⟨j, hj, hm, fun t => (h1 t).trans (hE.le t), fun id x hx => h2 _ _ (hO.le id x hx)⟩
  | exit k =>
    obtain ⟨rfl, j, hj, hx, hE, hO⟩ := h3
    exact ⟨sx j, ox j, fun t => (h1 t).trans (hE.le t), fun id x hx => h2 _ _ (hO.le id x hx), after j hj hx⟩
  | _ => exact h3.elim
end
end Go.Proofs.YtngklbnodknadaaGreatDoor
end

section
namespace Go.Proofs.YtngklbnodknadaaGreatDoor
open Go.RowKit

def orI (c : Int) : Int := IntKind.u8.wrap (BitVec.ofInt IntKind.u8.bits c ||| BitVec.ofInt IntKind.u8.bits 32).toNat
theorem lower_fn (c : Int) : FnD Tryz.prog 105 [.d (.v (.int .u8 c))] (.d (.v (.int .u8 (orI c)))) := by
  refine FnD.of1 (n := 5) [] fax_ok Tryz.func105 rfl rfl rfl (by rfl) (by kernel_rfl) (by intro _; rfl) fun Γ hA hbA => ?_
  (repeat ((conv => whnf); refine exR ?_))
  exact ⟨eN, rS, fiO⟩
theorem orI_x : ∀ n : Fin 64, (orI (n.1 : Int) == 120) = false := by decide
theorem orI_no {c : UInt8} (h : c.toNat < 64) : (orI (c.toNat : Int) == 120) = false := orI_x ⟨c.toNat, h⟩
set_option maxHeartbeats 4000000 in
theorem rf_fn (s : List UInt8) (k : Nat) (hs : NumS s k) (hl : s.length ≤ 9223372036854774000) : FnD Tryz.prog 92 [strT s] (.tup [u64T (rfM s).mant, intT (rfE (rfM s)), boolT false, boolT (rfM s).tr, boolT false, intT s.length, boolT true]) := by
  have h1 := hs.one
  have h2 := hs.two
  obtain ⟨c0, g0⟩ : ∃ c, s[0]? = some c := ⟨s[0], List.getElem?_eq_getElem (by omega)⟩
  obtain ⟨c1, g1⟩ : ∃ c, s[1]? = some c := ⟨s[1], List.getElem?_eq_getElem (by omega)⟩
  have d0 := hs.dg 0 c0 g0 (by omega)
  have l1 : c1.toNat < 64 := by
    by_cases e : 1 = k
    · have := hs.dot
      rw [← e, g1] at this
      rw [Option.some.inj this]; decide
    · have := hs.dg 1 c1 g1 e
      unfold isDg at this; omega
  unfold isDg at d0
  have hx := orI_no l1
  have hlow := lower_fn c1.toNat
  generalize orI (c1.toNat : Int) = o1 at hx hlow
  have hend : rfM s = (s.take s.length).foldl rfS rf0 := by rw [List.take_length]; rfl
  have hok := rf_ok hs
  generalize hR : rfM s = R at hend ⊢
  obtain ⟨M0, nd0, nm0, p0, dot0, dg00, t0⟩ := R
  dsimp only
  have hxM : M0 = 0 → rfE ⟨M0, nd0, nm0, p0, dot0, dg00, t0⟩ = 0 := fun h => if_pos h
  have hxN : M0 ≠ 0 → rfE ⟨M0, nd0, nm0, p0, dot0, dg00, t0⟩ = p0 - nm0 := fun h => if_neg h
  generalize rfE ⟨M0, nd0, nm0, p0, dot0, dg00, t0⟩ = x0 at hxM hxN ⊢
  have hq := hok s.length (Nat.le_refl _)
  rw [← hend] at hq
  obtain ⟨z1, -, z3, z4, z5, z6, z7, z8⟩ := hq
  dsimp only at z1 z3 z4 z5 z6 z7 z8
  obtain rfl : dot0 = true := by rw [z7]; exact decide_eq_true (by omega)
  obtain rfl : dg00 = true := z8 (by omega)
  have hwM : M0 ≠ 0 → IntKind.i64.wrap (p0 - (nm0 : Int)) = x0 := fun h => by rw [hxN h]; exact wrap_in (by omega) (by omega)
  refine FnD.ofT (n := 253) [] fax_ok Tryz.func92 rfl rfl rfl (by rfl) (by kernel_rfl) (by intro _; rfl) fun Γ hA hbA => ?_
  have hz0 : ((c0.toNat : Int) == 48) = decide (c0 = 48) := b48
  rcases Decidable.em (c0 = 48) with hc0 | hc0
  case' inl =>
    rw [decide_eq_true hc0] at hz0
    (repeat ((conv => whnf); (first | with_reducible refine exE _ (w_inc (by omega)) ?_ | with_reducible refine exE _ (wrap_in (by omega) (by omega)) ?_ | refine exR ?_ | refine gd (enters_of Tryz.func105 rfl rfl) hlow ?_ | refine tT ?_ | refine tF ?_ | refine exB _ rfl (by assumption) ?_)))
  case' inr =>
    rw [decide_eq_false hc0] at hz0
    (repeat ((conv => whnf); (first | with_reducible refine exE _ (w_inc (by omega)) ?_ | refine exR ?_ | refine tT ?_ | refine tF ?_ | refine exB _ rfl (by assumption) ?_)))
  all_goals
    clear hc0 hz0 hx hlow
    refine ev_loopX [] fax_ok hA (by kernel_rfl) (fun x : Nat × Rf => x.1 ≤ s.length ∧ (s.take x.1).foldl rfS rf0 = x.2) (fun x => [(0, strT s), (2, u64T x.2.mant), (3, intT 0), (4, boolT false), (5, boolT x.2.tr), (6, boolT false), (7, intT x.1), (8, boolT false), (9, boolT false), (10, .d (.v (.int .u64 10))), (11, intT 19), (12, .d (.v (.int .u8 101))), (13, boolT x.2.dot), (14, boolT x.2.dg), (15, intT x.2.nd), (16, intT x.2.nm), (17, intT x.2.dp)]) (fun _ => []) (fun x => s.length - x.1) 1 (fun x => x.1 = s.length) (fun x => [(0, strT s), (2, u64T x.2.mant), (3, intT 0), (4, boolT false), (5, boolT x.2.tr), (6, boolT false), (7, intT x.1), (8, boolT false), (9, boolT false), (10, .d (.v (.int .u64 10))), (11, intT 19), (12, .d (.v (.int .u8 101))), (13, boolT x.2.dot), (14, boolT x.2.dg), (15, intT x.2.nd), (16, intT x.2.nm), (17, intT x.2.dp)]) (fun _ => []) (0, rf0) ⟨Nat.zero_le _, rfl⟩ fiE fiO ?_ ?_
    · rintro ⟨i, ⟨M, nd, nm, p, dot, dg0, t⟩⟩ ⟨hi, he⟩ - hbO2
      dsimp only at hi he ⊢
      have hd := hok i hi
      rw [he] at hd
      obtain ⟨q1, q2, q3, q4, q5, q6, q7, q8⟩ := hd
      dsimp only at q1 q2 q3 q4 q5 q6 q7 q8
      have hil := Classical.em (i < s.length)
      rcases hil with hil | hil
      · obtain ⟨c, hg⟩ := get_ex hil
        have hn := rf_take hg
        rw [he] at hn
        have hik := Classical.em (i = k)
        rcases hik with hik | hik
        · subst hik
          have hc : c = 46 := by have := hs.dot; rw [hg] at this; exact Option.some.inj this
          subst hc
          obtain rfl : dot = false := by rw [q7]; exact decide_eq_false (by omega)
          rw [rfS_dot] at hn
          clear hok hend
          (repeat ((conv => whnf); (first | with_reducible refine exE _ (w_inc (by omega)) ?_ | refine exR ?_ | refine tT ?_ | refine tF ?_ | refine exB _ rfl (by assumption) ?_)))
          exact ⟨(i + 1, ⟨M, nd, nm, nd, true, dg0, t⟩), ⟨hil, hn⟩, by dsimp only; omega, fiE, fiO⟩
        · have hdc := hs.dg i c hg hik
          have hdl := dig_lt hdc
          have hdt : (c.toNat : Int) - 48 = (dig c : Int) := by unfold isDg at hdc; unfold dig; omega
          unfold isDg at hdc
          have h46 : c ≠ 46 := by rintro rfl; revert hdc; decide
          clear hok hend q7 q8
          have t95 : (true == ((c.toNat : Int) == 95)) = false := by rw [show ((c.toNat : Int) == 95) = false from beq_eq_false_iff_ne.2 (by omega)]; rfl
          have t46 : (true == ((c.toNat : Int) == 46)) = false := by rw [show ((c.toNat : Int) == 46) = false from beq_eq_false_iff_ne.2 (by omega)]; rfl
          have t57 : (true == decide ((c.toNat : Int) ≤ 57)) = true := by rw [decide_eq_true (by omega)]; rfl
          have hz : ((c.toNat : Int) == 48) = decide (c = 48) := b48
          have h0 := Classical.em (c = 48 ∧ nd = 0)
          rcases h0 with h0 | h0
          · rw [rfS_zero h46 h0] at hn
            rw [decide_eq_true h0.1] at hz
            have hm0 : (((nd : Nat) : Int) == 0) = true := by rw [beq_iff_eq]; omega
            have hw : IntKind.i64.wrap (p - 1) = p - 1 := wrap_in (by omega) (by omega)
            (repeat ((conv => whnf); (first | with_reducible refine exE (α := Int) _ (by assumption) ?_ | with_reducible refine exE _ (w_inc (by omega)) ?_ | refine exR ?_ | refine tT ?_ | refine tF ?_ | refine exB _ rfl (by assumption) ?_)))
            exact ⟨(i + 1, ⟨M, nd, nm, p - 1, dot, true, t⟩), ⟨hil, hn⟩, by dsimp only; omega, fiE, fiO⟩
          have hm0 : c = 48 → (((nd : Nat) : Int) == 0) = false := fun e => by rw [beq_eq_false_iff_ne]; intro q; exact h0 ⟨e, by omega⟩
          have hw1 : IntKind.i64.wrap ((nd : Int) + 1) = ((nd + 1 : Nat) : Int) := i_nat (by omega) (by omega)
          have h19 := Classical.em (nm < 19)
          rcases h19 with h19 | h19
          · rw [rfS_in h46 h0 h19] at hn
            have p19 : 10 ^ nm ≤ 10 ^ 18 := Nat.pow_le_pow_right (by decide) (by omega)
            have hw2 : IntKind.i64.wrap ((nm : Int) + 1) = ((nm + 1 : Nat) : Int) := i_nat (by omega) (by omega)
            have hw3 : IntKind.u64.wrap ((M : Int) * 10) = ((M * 10 : Nat) : Int) := u_nat (by omega) (by omega)
            have hw4 : IntKind.u8.wrap ((c.toNat : Int) - 48) = (dig c : Int) := u8_nat hdt (by omega)
            have hw5 : IntKind.u64.wrap (dig c : Int) = (dig c : Int) := u_nat rfl (by omega)
            have hw6 : IntKind.u64.wrap (((M * 10 : Nat) : Int) + (dig c : Int)) = ((M * 10 + dig c : Nat) : Int) := u_nat (by omega) (by omega)
            generalize dig c = D0 at *
            have hc := Classical.em (c = 48)
            rcases hc with hc | hc
            · rw [decide_eq_true hc] at hz
              have hm0 := hm0 hc
              (repeat ((conv => whnf); (first | with_reducible refine exE (α := Int) _ (by assumption) ?_ | with_reducible refine exE _ (w_inc (by omega)) ?_ | refine exR ?_ | refine tT ?_ | refine tF ?_ | refine exB _ rfl (by assumption) ?_)))
              exact ⟨(i + 1, ⟨M * 10 + D0, nd + 1, nm + 1, p, dot, true, t⟩), ⟨hil, hn⟩, by dsimp only; omega, fiE, fiO⟩
            · rw [decide_eq_false hc] at hz
              (repeat ((conv => whnf); (first | with_reducible refine exE (α := Int) _ (by assumption) ?_ | with_reducible refine exE _ (w_inc (by omega)) ?_ | refine exR ?_ | refine tT ?_ | refine tF ?_ | refine exB _ rfl (by assumption) ?_)))
              exact ⟨(i + 1, ⟨M * 10 + D0, nd + 1, nm + 1, p, dot, true, t⟩), ⟨hil, hn⟩, by dsimp only; omega, fiE, fiO⟩
          · rw [rfS_out h46 h0 h19] at hn
            have hc := Classical.em (c = 48)
            rcases hc with hc | hc
            · rw [decide_eq_true hc] at hz
              rw [if_pos hc] at hn
              have hm0 := hm0 hc
              have hne : ((c.toNat : Int) != 48) = false := by rw [hc]; rfl
              (repeat ((conv => whnf); (first | with_reducible refine exE (α := Int) _ (by assumption) ?_ | with_reducible refine exE _ (w_inc (by omega)) ?_ | refine exR ?_ | refine tT ?_ | refine tF ?_ | refine exB _ rfl (by assumption) ?_)))
              exact ⟨(i + 1, ⟨M, nd + 1, nm, p, dot, true, t⟩), ⟨hil, hn⟩, by dsimp only; omega, fiE, fiO⟩
            · rw [decide_eq_false hc] at hz
              rw [if_neg hc] at hn
              have hne : ((c.toNat : Int) != 48) = true := by rw [bne, hz]; rfl
              (repeat ((conv => whnf); (first | with_reducible refine exE (α := Int) _ (by assumption) ?_ | with_reducible refine exE _ (w_inc (by omega)) ?_ | refine exR ?_ | refine tT ?_ | refine tF ?_ | refine exB _ rfl (by assumption) ?_)))
              exact ⟨(i + 1, ⟨M, nd + 1, nm, p, dot, true, true⟩), ⟨hil, hn⟩, by dsimp only; omega, fiE, fiO⟩
      · (repeat ((conv => whnf); (first | refine exR ?_ | refine tF ?_ | refine And.intro rfl ?_)))
        exact ⟨(i, ⟨M, nd, nm, p, dot, dg0, t⟩), ⟨hi, he⟩, by dsimp only; omega, fiE, fiO⟩
    · rintro ⟨i, R⟩ ⟨-, he⟩ hi
      dsimp only at hi he
      subst hi
      rw [← hend] at he
      subst he
      have hM := Classical.em (M0 = 0)
      cases hM with
      | inl hM =>
        have hm0 : (((M0 : Nat) : Int) != 0) = false := by rw [hM]; rfl
        obtain rfl := hxM hM
        (repeat ((conv => whnf); (first | refine exR ?_ | refine tF ?_)))
        exact ⟨eN, rS, fiO⟩
      | inr hM =>
        have hm0 : (((M0 : Nat) : Int) != 0) = true := bne_iff_ne.2 (by omega)
        have hwM := hwM hM
        (repeat ((conv => whnf); (first | with_reducible refine exE (α := Int) _ (by assumption) ?_ | refine exR ?_ | refine tT ?_ | refine tF ?_)))
        exact ⟨eN, rS, fiO⟩
end Go.Proofs.YtngklbnodknadaaGreatDoor
end

section
namespace Go.Proofs.YtngklbnodknadaaGreatDoor
open Go.RowKit

def upM (a : List UInt8) (nd : Nat) (tr : Bool) (z : Int) : Bool :=
  if z < 0 ∨ (nd : Int) ≤ z then false
  else if a.getD z.toNat 0 = 53 ∧ z.toNat + 1 = nd then (if tr = true then true else if z.toNat = 0 then false else (IntKind.u8.wrap (((a.getD (z.toNat - 1) 0).toNat : Int) - 48)).tmod 2 != 0)
  else decide (53 ≤ ((a.getD z.toNat 0).toNat : Int))
theorem b53 {b : UInt8} : ((b.toNat : Int) == 53) = decide (b = 53) := by
  by_cases h : b = 53
  · subst h; rfl
  · have : b.toNat ≠ 53 := fun e => h (UInt8.toNat_inj.1 (by rw [e]; rfl))
    rw [decide_eq_false h]
    simp; omega
theorem up_fn (a : List UInt8) (nd : Nat) (dp : Int) (ng tr : Bool) (z : Int) (ha : a.length = 800) (hn : nd ≤ 800) (r : Bool) (hr : upM a nd tr z = r) : FnO Tryz.prog 132 [.ref 1000 0, intT z] [(1000, decO a nd dp ng tr)] (boolT r) [(1000, decO a nd dp ng tr)] := by
  unfold upM at hr
  by_cases h1 : z < 0
  · rw [if_pos (.inl h1)] at hr
    subst hr
    refine FnO.of1 (n := 56) [] fax_ok Tryz.func132 rfl rfl rfl (by rfl) (by rfl) (by kernel_rfl) fun Γ hA hbA hbO => ?_
    (repeat ((conv => whnf); (first | refine exR ?_ | refine tT ?_ | refine uF ?_)))
    exact ⟨eN, rS, fiO⟩
  by_cases h2 : (nd : Int) ≤ z
  · rw [if_pos (.inr h2)] at hr
    subst hr
    refine FnO.of1 (n := 56) [] fax_ok Tryz.func132 rfl rfl rfl (by rfl) (by rfl) (by kernel_rfl) fun Γ hA hbA hbO => ?_
    (repeat ((conv => whnf); (first | refine exR ?_ | refine tT ?_ | refine tF ?_ | refine uT ?_ | refine lL ?_)))
    exact ⟨eN, rS, fiO⟩
  rw [if_neg (by omega)] at hr
  obtain ⟨j, rfl⟩ : ∃ j : Nat, z = (j : Int) := ⟨z.toNat, by omega⟩
  rw [Int.toNat_natCast] at hr
  have hg := dec_get (a := a) (i := j) (by omega)
  generalize a.getD j 0 = b at hg hr
  by_cases hb : b = 53
  · have hc : ((b.toNat : Int) == 53) = true := by rw [b53]; exact decide_eq_true hb
    by_cases hj : j + 1 = nd
    · rw [if_pos ⟨hb, hj⟩] at hr
      cases tr with
      | true =>
        rw [if_pos rfl] at hr
        subst hr
        refine FnO.of1 (n := 56) [] fax_ok Tryz.func132 rfl rfl rfl (by rfl) (by rfl) (by kernel_rfl) fun Γ hA hbA hbO => ?_
        (repeat ((conv => whnf); (first | refine exR ?_ | refine tF ?_ | refine uT ?_ | refine lL ?_ | refine exA _ rfl (by omega) ?_)))
        refine xB8 b hg ?_
        (repeat ((conv => whnf); (first | with_reducible refine exE _ (w_inc (by omega)) ?_ | refine exR ?_ | refine tT ?_ | refine lL ?_)))
        exact ⟨eN, rS, fiO⟩
      | false =>
        rw [if_neg (by decide)] at hr
        rcases j with _ | j
        · rw [if_pos rfl] at hr
          subst hr
          refine FnO.of1 (n := 56) [] fax_ok Tryz.func132 rfl rfl rfl (by rfl) (by rfl) (by kernel_rfl) fun Γ hA hbA hbO => ?_
          (repeat ((conv => whnf); (first | refine exR ?_ | refine tF ?_ | refine uT ?_ | refine lL ?_ | refine exA 0 rfl (by decide) ?_)))
          refine xB8 b hg ?_
          (repeat ((conv => whnf); (first | with_reducible refine exE _ (w_inc (by omega)) ?_ | refine exR ?_ | refine tT ?_ | refine tF ?_ | refine lL ?_)))
          exact ⟨eN, rS, fiO⟩
        · rw [if_neg (by omega), show j + 1 - 1 = j by omega] at hr
          have hg2 := dec_get (a := a) (i := j) (by omega)
          generalize a.getD j 0 = c at hg2 hr
          subst hr
          refine FnO.of1 (n := 56) [] fax_ok Tryz.func132 rfl rfl rfl (by rfl) (by rfl) (by kernel_rfl) fun Γ hA hbA hbO => ?_
          (repeat ((conv => whnf); (first | refine exR ?_ | refine tF ?_ | refine uT ?_ | refine lL ?_ | refine exA _ rfl (by omega) ?_)))
          refine xB8 b hg ?_
          (repeat ((conv => whnf); (first | with_reducible refine exE _ (w_inc (by omega)) ?_ | with_reducible refine exE _ (w_dec (by omega) (by omega)) ?_ | refine exR ?_ | refine tT ?_ | refine tF ?_ | refine lL ?_ | refine exA _ rfl (by omega) ?_)))
          refine xB8 c hg2 ?_
          (repeat ((conv => whnf); (first | refine exR ?_ | refine tT ?_ | refine And.intro (a := _ ≠ _) (by decide) ?_)))
          exact ⟨eN, rS, fiO⟩
    · rw [if_neg (by omega)] at hr
      subst hr
      refine FnO.of1 (n := 56) [] fax_ok Tryz.func132 rfl rfl rfl (by rfl) (by rfl) (by kernel_rfl) fun Γ hA hbA hbO => ?_
      (repeat ((conv => whnf); (first | refine exR ?_ | refine tF ?_ | refine uT ?_ | refine lL ?_ | refine exA _ rfl (by omega) ?_)))
      refine xB8 b hg ?_
      (repeat ((conv => whnf); (first | with_reducible refine exE _ (w_inc (by omega)) ?_ | refine exR ?_ | refine tT ?_ | refine tF ?_ | refine lL ?_ | refine exA _ rfl (by omega) ?_)))
      refine xB8 b hg ?_
      (repeat ((conv => whnf); refine exR ?_))
      exact ⟨eN, rS, fiO⟩
  · have hc : ((b.toNat : Int) == 53) = false := by rw [b53]; exact decide_eq_false hb
    rw [if_neg (by intro h; exact hb h.1)] at hr
    subst hr
    refine FnO.of1 (n := 56) [] fax_ok Tryz.func132 rfl rfl rfl (by rfl) (by rfl) (by kernel_rfl) fun Γ hA hbA hbO => ?_
    (repeat ((conv => whnf); (first | refine exR ?_ | refine tF ?_ | refine uT ?_ | refine lL ?_ | refine exA _ rfl (by omega) ?_)))
    refine xB8 b hg ?_
    (repeat ((conv => whnf); (first | refine exR ?_ | refine tF ?_ | refine exA _ rfl (by omega) ?_)))
    refine xB8 b hg ?_
    (repeat ((conv => whnf); refine exR ?_))
    exact ⟨eN, rS, fiO⟩
end Go.Proofs.YtngklbnodknadaaGreatDoor
end
