/-
  slices.swapRangeCmpFunc, slices.rotateCmpFunc at events: what they make of the row, in lists.
-/
import Derived.Test.YtpafnadfoedheaaSf
import Derived.Test.YtpafnadfoedheaaStab
import Derived.Shelf.SlSortCmp.KitK
import Derived.Deep.LoopGhost
import Derived.Sort.WalkB2
import Derived.Sort.WalkB12
namespace Go.Proofs.Ytpafnadfoedheaa
open Go.Sort Go.RowKit Go.Lib

variable {P : Program} {α : Type} [Inhabited α] {enc : α → List Value} {k : Nat}
theorem size_of {α : Type} {d d' : Array α} (h : d'.toList.length = d.toList.length) : d'.size = d.size := by simpa using h

set_option maxHeartbeats 4000000 in
set_option maxRecDepth 1000000 in
theorem swapRange_any (F : SF P k) {d0 d : Array α} {w0 w : World} {blk off cap : Nat} {A U M V B : List α} (R : RowK enc k w0 blk off d0) (hs : d.size = d0.size) (S : SWK enc k w0 blk off d w) (h : d.toList = A ++ U ++ M ++ V ++ B)
    {a b n : Nat} (hU : U.length = n) (hV : V.length = n) (ha : a = A.length) (hb : b = A.length + n + M.length) (hsz : d.size < 4611686018427387904) (fv : Value) :
    Calls P 29 #[.slice (some ⟨blk, off, none⟩) d.size cap, .int .i64 a, .int .i64 b, .int .i64 n, fv] w fun e w' => e = .returned (.tuple #[]) ∧ ∃ d', d'.toList = A ++ V ++ M ++ U ++ B ∧ d'.size = d0.size ∧ SWK enc k w0 blk off d' w' := by
  have S0 : Aside (SWK enc k w0 blk off d w) := S
  have hl : d.size = A.length + n + M.length + n + B.length := by rw [← Array.length_toList, h]; simp [hU, hV, Nat.add_assoc]
  clear S
  have mixed := F.mixed; have t0 := F.t0; have a0 := F.a0; have z0 := F.z0; have v0 := F.v0; have t3 := F.t3; have a3 := F.a3; have z3 := F.z3; have v3 := F.v3; have t4 := F.t4; have a4 := F.a4; have z4 := F.z4; have v4 := F.v4; have t22 := F.tES; have a22 := F.aES; have z22 := F.zES; have v22 := F.vES; have t25 := F.tFN; have a25 := F.aFN; have z25 := F.zFN; have v25 := F.vFN; have aE := F.aE; have zE := F.zE
  have FG := F.fSw
  clear F
  go_enter FG, Try.ntmps29
  go_wp2
  have H : Hid (d.toList = A ++ U ++ M ++ V ++ B) := h
  clear h
  go_loopg [10] n (fun kx s wr => ∃ (i : Nat) (dk : Array α), s = .int .i64 i ∧ i + kx = n ∧ dk.size = d.size ∧ Aside (SWK enc k w0 blk off dk wr) ∧ Hid (dk.toList = A ++ V.take i ++ U.drop i ++ M ++ U.take i ++ V.drop i ++ B))
  case atStart => exact ⟨0, d, rfl, by omega, rfl, S0, by show _ = _; simpa using H.out⟩
  case round =>
    clear S0
    obtain ⟨i, dk, rfl, hkx, hds, S1, HL⟩ := hrel
    by_cases hlt : i < n
    · obtain ⟨x, e1, e3⟩ : ∃ x, U.drop i = x :: U.drop (i + 1) ∧ U.take (i + 1) = U.take i ++ [x] := ⟨U[i], List.drop_eq_getElem_cons (by omega), List.take_succ_eq_append_getElem (by omega)⟩
      obtain ⟨y, e2, e4⟩ : ∃ y, V.drop i = y :: V.drop (i + 1) ∧ V.take (i + 1) = V.take i ++ [y] := ⟨V[i], List.drop_eq_getElem_cons (by omega), List.take_succ_eq_append_getElem (by omega)⟩
      have hL : dk.toList = (A ++ V.take i) ++ x :: ((U.drop (i + 1) ++ M ++ U.take i) ++ y :: (V.drop (i + 1) ++ B)) := by
        rw [HL.out, e1, e2]; simp
      have hL2 := swp_at (i := a + i) (j := b + i) hL (by simp; omega) (by simp; omega)
      have HL2 : Hid ((swp dk (a + i) (b + i)).toList = A ++ V.take (i + 1) ++ U.drop (i + 1) ++ M ++ U.take (i + 1) ++ V.drop (i + 1) ++ B) := by
        show _ = _
        rw [hL2, e3, e4]; simp
      clear HL hL hL2 e1 e2 e3 e4
      have ea : ((a : Int) + (i : Int)).toNat = a + i := by omega
      have pa : (0 : Int) ≤ (a : Int) + (i : Int) := by omega
      have ba : (a : Int) + (i : Int) < (d.size : Int) := by omega
      have ra : IntKind.i64.wrap ((a : Int) + (i : Int)) = (a : Int) + (i : Int) := by rw [IntKind.wrap_i64]; omega
      have eb : ((b : Int) + (i : Int)).toNat = b + i := by omega
      have pb : (0 : Int) ≤ (b : Int) + (i : Int) := by omega
      have bb : (b : Int) + (i : Int) < (d.size : Int) := by omega
      have rb : IntKind.i64.wrap ((b : Int) + (i : Int)) = (b : Int) + (i : Int) := by rw [IntKind.wrap_i64]; omega
      have S2 : Aside (SWK enc k w0 blk off (swp dk (a + i) (b + i)) ((wr.drew.setCells blk (off + (a + i) * k) (enc dk[b + i]!)).setCells blk (off + (b + i) * k) (enc dk[a + i]!))) := S1.out.swapped R (a + i) (b + i) (by omega) (by omega)
      have la := S1.out.ld1 R (by omega) P (a + i) (by omega)
      have lb := S1.out.ld1 R (by omega) P (b + i) (by omega)
      have sa := S1.out.st1 R (by omega) P (a + i) (by omega) dk[b + i]!
      have sb := S1.out.st2 R (by omega) P (a + i) (b + i) (by omega) (by omega) dk[b + i]! dk[a + i]!
      have na : (enc dk[a + i]!).length = k := R.hk _
      have nb : (enc dk[b + i]!).length = k := R.hk _
      generalize enc dk[a + i]! = cI at S2 la sb na
      generalize enc dk[b + i]! = cJ at S2 lb sa sb nb
      clear S1
      have hltz : (i : Int) < (n : Int) := by omega
      have HA : Hid (a = A.length) := ha
      have HB : Hid (b = A.length + n + M.length) := hb
      clear ha hb
      go_wp2_with fail
      go_big_region_o
      clear la lb sa sb
      generalize (wr.drew.setCells blk (off + (a + i) * k) cJ).setCells blk (off + (b + i) * k) cI = w2 at S2 ⊢
      go_wp2
      go_roundg (n - (i + 1))
      case measure => omega
      case rel => exact ⟨i + 1, swp dk (a + i) (b + i), by go_num, by omega, by rw [size_swp]; exact hds, S2, HL2⟩
    · obtain rfl : i = n := by omega
      go_wp2
      go_end0
      refine ⟨rfl, dk, ?_, by omega, S1.out⟩
      rw [HL.out, List.drop_of_length_le (by omega), List.drop_of_length_le (by omega), List.take_of_length_le (by omega), List.take_of_length_le (by omega)]
      simp

theorem swapRange_at (F : SF P k) {d0 d : Array α} {w0 w : World} {blk off cap : Nat} {A U M V B : List α} (R : RowK enc k w0 blk off d0) (hs : d.size = d0.size) (S : SWK enc k w0 blk off d w) (h : d.toList = A ++ U ++ M ++ V ++ B)
    {ai bi ni : Int} {len : Nat} (hUV : U.length = V.length) (ha : ai = A.length) (hb : bi = (A.length + U.length + M.length : Nat)) (hn : ni = U.length) (hlen : len = d0.size) (hsz : d0.size < 4611686018427387904) (fv : Value) :
    Calls P 29 #[.slice (some ⟨blk, off, none⟩) len cap, .int .i64 ai, .int .i64 bi, .int .i64 ni, fv] w fun e w' => e = .returned (.tuple #[]) ∧ ∃ d', d'.toList = A ++ V ++ M ++ U ++ B ∧ d'.size = d0.size ∧ SWK enc k w0 blk off d' w' := by
  subst ha hb hn hlen
  rw [← hs]
  have := swapRange_any F (cap := cap) R hs S h (a := A.length) (b := A.length + U.length + M.length) (n := U.length) rfl hUV.symm rfl rfl (by omega) fv
  rw [hs] at this ⊢
  exact this

set_option maxHeartbeats 4000000 in
set_option maxRecDepth 1000000 in
theorem rotate_at (F : SF P k) {d0 d : Array α} {w0 w : World} {blk off cap : Nat} {A U V B : List α} (R : RowK enc k w0 blk off d0) (hs : d.size = d0.size) (S : SWK enc k w0 blk off d w) (h : d.toList = A ++ U ++ V ++ B)
    {ai mi bi : Int} {len : Nat} (hU : 0 < U.length) (hV : 0 < V.length) (ha : ai = A.length) (hm : mi = (A.length + U.length : Nat)) (hb : bi = (A.length + U.length + V.length : Nat)) (hlen : len = d0.size) (hsz : d0.size < 4611686018427387904) (fv : Value) :
    Calls P 28 #[.slice (some ⟨blk, off, none⟩) len cap, .int .i64 ai, .int .i64 mi, .int .i64 bi, fv] w fun e w' => e = .returned (.tuple #[]) ∧ ∃ d', d'.toList = A ++ V ++ U ++ B ∧ d'.size = d0.size ∧ SWK enc k w0 blk off d' w' := by
  subst hlen
  have S0 : Aside (SWK enc k w0 blk off d w) := S
  have hl : d.size = A.length + U.length + V.length + B.length := by rw [← Array.length_toList, h]; simp [Nat.add_assoc]
  have mixed := F.mixed; have t0 := F.t0; have a0 := F.a0; have z0 := F.z0; have v0 := F.v0; have t3 := F.t3; have a3 := F.a3; have z3 := F.z3; have v3 := F.v3; have t4 := F.t4; have a4 := F.a4; have z4 := F.z4; have v4 := F.v4; have t22 := F.tES; have a22 := F.aES; have z22 := F.zES; have v22 := F.vES; have t25 := F.tFN; have a25 := F.aFN; have z25 := F.zFN; have v25 := F.vFN
  have FG := F.fRo
  have e29 : ∀ args w, (callFunc 29 args).run P w = .ok (.enter 29 args) w := enters_of F.fSw rfl rfl
  have FH : Aside (SF P k) := F
  have RH : Aside (RowK enc k w0 blk off d0) := R
  clear S F R
  obtain ⟨T, hT⟩ : ∃ T, T = A ++ V ++ U ++ B := ⟨_, rfl⟩
  rw [← hT]
  have H : Hid (d.toList = A ++ U ++ V ++ B) := h
  have HT : Hid (A ++ V ++ U ++ B = T) := hT.symm
  have HM : Hid (mi = (A.length + U.length : Nat)) := hm
  have e1 : mi - ai = (U.length : Int) := by omega
  have e2 : bi - mi = (V.length : Int) := by omega
  have b1 : ai ≤ mi := by omega
  have b2 : 0 ≤ ai := by omega
  have b3 : mi ≤ bi := by omega
  have b4 : bi < 4611686018427387904 := by omega
  have HL : Hid (d.size = A.length + U.length + V.length + B.length) := hl
  clear h hT hm ha hb hl
  go_enter FG, Try.ntmps28
  go_wp2
  generalize hu : U.length = u at *
  generalize hv : V.length = v at *
  go_loopg [10, 11] (u + v) (fun kx s10 s11 wr => ∃ (i j : Nat) (A' U' V' B' : List α) (dk : Array α), s10 = .int .i64 i ∧ s11 = .int .i64 j ∧ 0 < i ∧ 0 < j ∧ i + j ≤ kx ∧ j ≤ v ∧ i ≤ u ∧ dk.size = d0.size ∧ Aside (SWK enc k w0 blk off dk wr) ∧
    Hid (dk.toList = A' ++ U' ++ V' ++ B' ∧ A' ++ V' ++ U' ++ B' = T ∧ U'.length = i ∧ V'.length = j ∧ mi = (A'.length + i : Nat)))
  case atStart => exact ⟨u, v, A, U, V, B, d, rfl, rfl, by omega, by omega, by omega, Nat.le_refl _, Nat.le_refl _, hs, S0, ⟨H.out, HT.out, hu, hv, HM.out⟩⟩
  case round =>
    clear S0
    obtain ⟨i, j, A', U', V', B', dk, rfl, rfl, hi, hj, hkx, hjv, hiu, hds, S1, HL⟩ := hrel
    by_cases hij : i = j
    · subst hij
      have e3 : mi - (i : Int) = (A'.length : Int) := by have := HL.out.2.2.2.2; omega
      have e4 : A'.length + i + i ≤ d0.size := by
        have h1 := congrArg List.length HL.out.1
        have h2 := HL.out.2.2.1
        have h3 := HL.out.2.2.2.1
        simp only [List.length_append, Array.length_toList] at h1
        omega
      have CC := fun f => swapRange_at FH.out (cap := cap) (A := A') (U := U') (M := []) (V := V') (B := B') RH.out hds S1.out (by rw [HL.out.1]; simp) (by rw [HL.out.2.2.1, HL.out.2.2.2.1]) (ai := mi - (i : Int)) (bi := mi) (ni := i) e3 (by have := HL.out.2.2.2.2; have := HL.out.2.2.1; simp; omega) (by rw [HL.out.2.2.1]) rfl hsz f
      have CH : Hid _ := CC
      clear CC S1
      rw [e3] at CH
      go_wp2_with (go_at_fn 29; refine (CH.out _).mono ?_; rintro e w1 ⟨rfl, d1, hd1, hs1, S2⟩)
      go_end0
      refine ⟨rfl, d1, ?_, hs1, S2⟩
      rw [hd1, ← HL.out.2.1]; simp
    · have e3 : mi - (i : Int) = (A'.length : Int) := by have := HL.out.2.2.2.2; omega
      have e4 : A'.length + i + j ≤ d0.size := by
        have h1 := congrArg List.length HL.out.1
        have h2 := HL.out.2.2.1
        have h3 := HL.out.2.2.2.1
        simp only [List.length_append, Array.length_toList] at h1
        omega
      have hne' : ((i : Int) != (j : Int)) = true := by simp [bne_iff_ne]; omega
      by_cases hlt : j < i
      · have CC := fun f => swapRange_at FH.out (cap := cap) (A := A') (U := U'.take j) (M := U'.drop j) (V := V') (B := B') RH.out hds S1.out (by rw [HL.out.1]; simp) (by rw [List.length_take, HL.out.2.2.1, HL.out.2.2.2.1]; omega) (ai := mi - (i : Int)) (bi := mi) (ni := j) e3 (by have := HL.out.2.2.2.2; have := HL.out.2.2.1; simp; omega) (by rw [List.length_take, HL.out.2.2.1, Nat.min_eq_left (by omega)]) rfl hsz f
        have CH : Hid _ := CC
        clear CC S1
        rw [e3] at CH
        have hltz : (j : Int) < (i : Int) := by omega
        go_wp2_with (go_at_fn 29; refine (CH.out _).mono ?_; rintro e w1 ⟨rfl, d1, hd1, hs1, S2⟩)
        go_roundg ((i - j) + j)
        case measure => omega
        case rel =>
          have h1 := HL.out.2.2.1
          have h2 := HL.out.2.2.2.1
          have h5 := HL.out.2.2.2.2
          refine ⟨i - j, j, A' ++ V', U'.drop j, U'.take j, B', d1, by go_num, rfl, by omega, hj, Nat.le_refl _, hjv, by omega, hs1, S2, ⟨hd1, ?_, by simp; omega, by simp; omega, by simp [h2]; omega⟩⟩
          rw [← HL.out.2.1]
          simp only [List.append_assoc]
          rw [← List.append_assoc (U'.take j), List.take_append_drop]
      · obtain ⟨q, hq⟩ : ∃ q : Nat, q = A'.length + i + (j - i) := ⟨_, rfl⟩
        have e5 : mi + (j : Int) - (i : Int) = (q : Int) := by omega
        have CC := fun f => swapRange_at FH.out (cap := cap) (A := A') (U := U') (M := V'.take (j - i)) (V := V'.drop (j - i)) (B := B') RH.out hds S1.out (by rw [HL.out.1]; simp) (by rw [List.length_drop, HL.out.2.2.1, HL.out.2.2.2.1]; omega) (ai := mi - (i : Int)) (bi := mi + (j : Int) - (i : Int)) (ni := i) e3 (by have := HL.out.2.2.2.2; have := HL.out.2.2.1; have := HL.out.2.2.2.1; simp; omega) (by rw [HL.out.2.2.1]) rfl hsz f
        have CH : Hid _ := CC
        clear CC S1
        rw [e3, e5] at CH
        have hltz : ¬ (j : Int) < (i : Int) := by omega
        clear hq
        have bm : mi + (j : Int) ≤ 4611686018427387904 := by omega
        go_wp2_with (go_at_fn 29; refine (CH.out _).mono ?_; rintro e w1 ⟨rfl, d1, hd1, hs1, S2⟩)
        go_roundg (i + (j - i))
        case measure => omega
        case rel =>
          have h1 := HL.out.2.2.1
          have h2 := HL.out.2.2.2.1
          have h5 := HL.out.2.2.2.2
          refine ⟨i, j - i, A', V'.drop (j - i), V'.take (j - i), U' ++ B', d1, rfl, by go_num, hi, by omega, Nat.le_refl _, by omega, hiu, hs1, S2, ⟨by rw [hd1]; simp, ?_, by simp; omega, by simp; omega, h5⟩⟩
          rw [← HL.out.2.1]
          simp only [List.append_assoc]
          rw [← List.append_assoc (V'.take (j - i)), List.take_append_drop]
end Go.Proofs.Ytpafnadfoedheaa
