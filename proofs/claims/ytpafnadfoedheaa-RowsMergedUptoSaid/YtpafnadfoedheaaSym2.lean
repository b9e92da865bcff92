/-
  slices.symMergeCmpFunc at events: two sorted stretches, one behind the other, become the sorted stable one of both: the second stretch is one (gensym.py)
-/
import Derived.Test.YtpafnadfoedheaaSym1
namespace Go.Proofs.Ytpafnadfoedheaa
open Go.Sort Go.RowKit Go.Lib

variable {P : Program} {α : Type} [Inhabited α] {enc : α → List Value} {k : Nat}

set_option maxHeartbeats 40000000 in
set_option maxRecDepth 1000000 in
theorem sym2 (F : SF P k) {key : α → Int} {cf : α → α → Int} (hcf : ∀ x y, cf x y < 0 ↔ key x < key y) {g : Nat} {cb : Array Value} (eg : ∀ args w, (callFunc g args).run P w = .ok (.enter g args) w) {d0 : Array α} {w0 : World} {blk off cap : Nat}
    (hcmp : CmpLays P g cb enc k cf blk off d0.size w0) (R : RowK enc k w0 blk off d0) (hsz : d0.size < 4611686018427387904) {N : Nat} (IH : SymIH (enc := enc) P k key g cb d0 w0 blk off cap N) {d : Array α} {w : World} {A X Y B : List α} {ai mi bi : Int} {len : Nat} (hN : X.length + Y.length ≤ N + 1)
    (hs : d.size = d0.size) (S : SWK enc k w0 blk off d w) (h : d.toList = A ++ X ++ Y ++ B) (hX : 0 < X.length) (hY : 0 < Y.length) (sX : Srt key X) (sY : Srt key Y) (ha : ai = A.length) (hm : mi = (A.length + X.length : Nat)) (hb : bi = (A.length + X.length + Y.length : Nat)) (hlen : len = d0.size) (hX1 : ¬ X.length = 1) (hY1 : Y.length = 1) :
    Calls P 27 #[.slice (some ⟨blk, off, none⟩) len cap, .int .i64 ai, .int .i64 mi, .int .i64 bi, .func (.func g) #[] cb] w fun e w' => e = .returned (.tuple #[]) ∧ ∃ d', d'.toList = A ++ ssort key (X ++ Y) ++ B ∧ d'.size = d0.size ∧ SWK enc k w0 blk off d' w' := by
  subst hlen
  have mixed := F.mixed; have t0 := F.t0; have a0 := F.a0; have z0 := F.z0; have v0 := F.v0; have t3 := F.t3; have a3 := F.a3; have z3 := F.z3; have v3 := F.v3; have t4 := F.t4; have a4 := F.a4; have z4 := F.z4; have v4 := F.v4; have t22 := F.tES; have a22 := F.aES; have z22 := F.zES; have v22 := F.vES; have t25 := F.tFN; have a25 := F.aFN; have z25 := F.zFN; have v25 := F.vFN; have t57 := F.tUI; have a57 := F.aUI; have z57 := F.zUI; have v57 := F.vUI; have aE := F.aE; have zE := F.zE
  have FG := F.fSy
  have S0 : Aside (SWK enc k w0 blk off d w) := S
  have HC : Aside _ := hcmp
  have IHH : Aside _ := @IH
  have hl : d.size = A.length + X.length + Y.length + B.length := by rw [← Array.length_toList, h]; simp [Nat.add_assoc]
  have H : Hid (d.toList = A ++ X ++ Y ++ B) := h
  have FH : Aside (SF P k) := F
  have HCF : Hid (∀ x y, cf x y < 0 ↔ key x < key y) := hcf
  clear S hcmp IH h F hcf
  go_enter FG, Try.ntmps27
  obtain ⟨a, rfl⟩ : ∃ a : Nat, ai = a := ⟨_, ha⟩
  obtain ⟨m, rfl⟩ : ∃ m : Nat, mi = m := ⟨_, hm⟩
  obtain ⟨b, rfl⟩ : ∃ b : Nat, bi = b := ⟨_, hb⟩
  have HA : Hid (a = A.length ∧ m = A.length + X.length ∧ b = A.length + X.length + Y.length) := ⟨by omega, by omega, by omega⟩
  have hm1 : ((m : Int) - (a : Int) == 1) = false := by rw [beq_eq_false_iff_ne]; omega
  have hab : a < m := by omega
  have hmb : m < b := by omega
  have hbs : b ≤ d.size := by omega
  have HN : Hid (X.length + Y.length ≤ N + 1) := hN
  have HL0 : Hid (d.size = A.length + X.length + Y.length + B.length) := hl
  have HX1 : Hid (¬ X.length = 1) := hX1
  clear ha hm hb hN hl hX1
  have hsX : ∀ p q, a ≤ p → p ≤ q → q < m → key d[p]! ≤ key d[q]! := fun p q h1 h2 h3 => srt_mid (A := A) (X := X) (B := Y ++ B) (by rw [H.out]; simp) sX (by have := HA.out; omega) h2 (by have := HA.out; omega)
  have HSX : Hid _ := hsX
  clear hsX
  obtain ⟨y, rfl⟩ := List.length_eq_one_iff.1 hY1
  have hb1 : (b : Int) - (m : Int) = 1 := by have := HA.out; simp at this; omega
  have HBM : Hid (b = m + 1) := by show _ = _; omega
  go_wp2_with fail
  go_loopg [14, 15, 16] (m - a) (fun kx s14 s15 s16 wr => ∃ (i j : Nat), s14 = .int .i64 i ∧ s15 = .int .i64 j ∧ a ≤ i ∧ i ≤ j ∧ j ≤ m ∧ j - i ≤ kx ∧ Aside (SWK enc k w0 blk off d wr) ∧
    Hid ((∀ c, a ≤ c → c < i → key d[c]! ≤ key d[m]!) ∧ (∀ c, j ≤ c → c < m → key d[m]! < key d[c]!)))
  case atStart => exact ⟨a, m, rfl, rfl, Nat.le_refl _, by omega, Nat.le_refl _, Nat.le_refl _, S0, ⟨fun c h1 h2 => by omega, fun c h1 h2 => by omega⟩⟩
  case round =>
    clear S0
    obtain ⟨i, j, rfl, rfl, hmi, hij, hjb, hkx, S1, HI⟩ := hrel
    by_cases hlt : i < j
    · have hltz : (i : Int) < (j : Int) := by omega
      go_wp2_with fail
      have eh : ((i : Int) + (j : Int)) / 2 = (((i + j) / 2 : Nat) : Int) := by omega
      rw [eh]
      have hq1 : i ≤ (i + j) / 2 := by omega
      have hq2 : (i + j) / 2 < j := by omega
      clear eh
      generalize (i + j) / 2 = q at *
      have eq : ((q : Int)).toNat = q := by omega
      have pq : (0 : Int) ≤ (q : Int) := by omega
      have bq : (q : Int) < (d0.size : Int) := by omega
      have rq : IntKind.i64.wrap ((q : Int)) = (q : Int) := by rw [IntKind.wrap_i64]; omega
      have ea : ((m : Int)).toNat = m := by omega
      have pa : (0 : Int) ≤ (m : Int) := by omega
      have ba : (m : Int) < (d0.size : Int) := by omega
      have ra : IntKind.i64.wrap ((m : Int)) = (m : Int) := by rw [IntKind.wrap_i64]; omega
      have la := S1.out.ld R (by omega) P q (by omega)
      have lb := S1.out.ld R (by omega) P m (by omega)
      have hc := S1.out.cmp HC.out (by omega) d[m]! d[q]!
      have hcf1 := HCF.out d[m]! d[q]!
      by_cases hlv : cf d[m]! d[q]! < 0
      · have hk := hcf1.1 hlv
        have HI2 : Hid ((∀ c, a ≤ c → c < i → key d[c]! ≤ key d[m]!) ∧ (∀ c, q ≤ c → c < m → key d[m]! < key d[c]!)) := ⟨HI.out.1, fun c h1 h2 => by have := HSX.out q c (by omega) h1 h2; omega⟩
        have hd1 : decide (cf d[m]! d[q]! < 0) = true := decide_eq_true hlv
        clear hcf1 hk HI
        generalize d[q]! = xq at *
        generalize d[m]! = xa at la lb hc hlv hd1 ⊢
        go_wp2_with fail
        go_quiet_grown (first | (go_at_fn g; refine Calls.grown_of (hc _ _)))
        have S2 : Aside (SWK enc k w0 blk off d (grow (wr.drewN nq) osq)) := S1.out.grown nq osq
        clear la lb hc S1
        generalize grow (wr.drewN nq) osq = w2 at S2 ⊢
        go_wp2
        go_roundg (q - i)
        case measure => omega
        case rel => exact ⟨i, q, rfl, rfl, hmi, by omega, by omega, Nat.le_refl _, S2, HI2⟩
      · have hk : key d[q]! ≤ key d[m]! := by have := mt hcf1.2 hlv; omega
        have HI2 : Hid ((∀ c, a ≤ c → c < q + 1 → key d[c]! ≤ key d[m]!) ∧ (∀ c, j ≤ c → c < m → key d[m]! < key d[c]!)) := ⟨fun c h1 h2 => by have := HSX.out c q h1 (by omega) (by omega); omega, HI.out.2⟩
        have hd1 : decide (cf d[m]! d[q]! < 0) = false := decide_eq_false hlv
        clear hcf1 hk HI
        generalize d[q]! = xq at *
        generalize d[m]! = xa at la lb hc hlv hd1 ⊢
        go_wp2_with fail
        go_quiet_grown (first | (go_at_fn g; refine Calls.grown_of (hc _ _)))
        have S2 : Aside (SWK enc k w0 blk off d (grow (wr.drewN nq) osq)) := S1.out.grown nq osq
        clear la lb hc S1
        generalize grow (wr.drewN nq) osq = w2 at S2 ⊢
        go_wp2
        go_roundg (j - (q + 1))
        case measure => omega
        case rel => exact ⟨q + 1, j, by go_num, rfl, by omega, by omega, hjb, Nat.le_refl _, S2, HI2⟩
    · obtain rfl : i = j := by omega
      have hn : i - a ≤ X.length := by have := HA.out; omega
      have hD : d.toList = A ++ X ++ ([y] ++ B) := by rw [H.out]; simp
      have hya : d[m]! = y := by
        have := bang_mid (A := A ++ X) (X := [y]) (B := B) (by rw [H.out]) (c := 0) (by simp)
        simp only [Nat.add_zero, List.length_append, List.getElem_cons_zero] at this
        rw [HA.out.2.1]; exact this
      have l1 : ∀ x ∈ X.take (i - a), key x ≤ key y := take_mid (p := fun x => key x ≤ key y) hD hn fun c h1 h2 => by rw [← hya]; exact HI.out.1 c (by have := HA.out; omega) (by have := HA.out; omega)
      have l2 : ∀ x ∈ X.drop (i - a), key y < key x := drop_mid (p := fun x => key y < key x) hD hn fun c h1 h2 => by rw [← hya]; exact HI.out.2 c (by have := HA.out; omega) (by have := HA.out; omega)
      have HZ : Hid (ssort key (X ++ [y]) = X.take (i - a) ++ (y :: X.drop (i - a))) := by
        have := one_behind (by rw [List.take_append_drop]; exact sX) l1 l2
        rw [List.take_append_drop] at this
        exact this
      clear hya l1 l2 HI
      obtain ⟨X1, hX1'⟩ : ∃ X1, X1 = X.take (i - a) := ⟨_, rfl⟩
      obtain ⟨X2, hX2⟩ : ∃ X2, X2 = X.drop (i - a) := ⟨_, rfl⟩
      have hXX : X = X1 ++ X2 := by rw [hX1', hX2, List.take_append_drop]
      have hl1 : X1.length = i - a := by rw [hX1', List.length_take]; omega
      have hl2 : X2.length = m - i := by rw [hX2, List.length_drop]; have := HA.out; omega
      rw [← hX1', ← hX2] at HZ
      have HD : Hid (d.toList = (A ++ X1) ++ (X2 ++ (y :: ([] ++ B)))) := by show _ = _; rw [hD, hXX]; simp
      clear hD hX1' hX2 hXX
      have HL1 : Hid (X1.length = i - a ∧ X2.length = m - i) := ⟨hl1, hl2⟩
      clear hl1 hl2 hn
      have hms : m < d0.size := by omega
      go_wp2
      go_loopg [17] (m - i) (fun kx s17 wr => ∃ (u : Nat) (dk : Array α), s17 = .int .i64 u ∧ i ≤ u ∧ u ≤ m ∧ u - i ≤ kx ∧ dk.size = d0.size ∧ Aside (SWK enc k w0 blk off dk wr) ∧ Hid (dk.toList = (A ++ X1) ++ (X2.take (u - i) ++ y :: (X2.drop (u - i) ++ B))))
      case atStart => exact ⟨m, d, rfl, hjb, Nat.le_refl _, Nat.le_refl _, hs, S1, by show _ = _; rw [HD.out, List.take_of_length_le (by have := HL1.out; omega), List.drop_of_length_le (by have := HL1.out; omega)]⟩
      case round =>
        clear S1 HD
        obtain ⟨u, dk, rfl, hau, hue, hkx2, hds, S1, HDK⟩ := hrel
        by_cases hlt2 : i < u
        · obtain ⟨v, rfl⟩ : ∃ v, u = v + 1 := ⟨u - 1, by omega⟩
          have hsw := shift_dn (A := A ++ X1) (X := X2) (t := v - i) (by rw [HDK.out, show v + 1 - i = v - i + 1 from by omega]) (by have := HL1.out; omega)
          rw [show (A ++ X1).length + (v - i) = v from by have := HA.out; have := HL1.out; simp; omega] at hsw
          have HDK2 : Hid ((swp dk (v + 1) v).toList = (A ++ X1) ++ (X2.take (v - i) ++ y :: (X2.drop (v - i) ++ B))) := hsw
          clear hsw HDK
          have eu : ((v : Int)).toNat = v := by omega
          have pu : (0 : Int) ≤ (v : Int) := by omega
          have bu : (v : Int) < (d0.size : Int) := by omega
          have ru : IntKind.i64.wrap ((v : Int)) = (v : Int) := by rw [IntKind.wrap_i64]; omega
          have ev : ((v : Int) + 1).toNat = v + 1 := by omega
          have pv : (0 : Int) ≤ (v : Int) + 1 := by omega
          have bv : (v : Int) + 1 < (d0.size : Int) := by omega
          have rv : IntKind.i64.wrap ((v : Int) + 1) = (v : Int) + 1 := by rw [IntKind.wrap_i64]; omega
          have S2 : Aside (SWK enc k w0 blk off (swp dk (v + 1) v) ((wr.drew.setCells blk (off + (v + 1) * k) (enc dk[v]!)).setCells blk (off + v * k) (enc dk[v + 1]!))) := S1.out.swapped R (v + 1) v (by omega) (by omega)
          have la := S1.out.ld1 R (by omega) P (v + 1) (by omega)
          have lb := S1.out.ld1 R (by omega) P v (by omega)
          have sa := S1.out.st1 R (by omega) P (v + 1) (by omega) dk[v]!
          have sb := S1.out.st2 R (by omega) P (v + 1) v (by omega) (by omega) dk[v]! dk[v + 1]!
          have na : (enc dk[v + 1]!).length = k := R.hk _
          have nb : (enc dk[v]!).length = k := R.hk _
          generalize enc dk[v + 1]! = cI at S2 la sb na
          generalize enc dk[v]! = cJ at S2 lb sa sb nb
          clear S1
          have hltz : (i : Int) < (v : Int) + 1 := by omega
          go_wp2_with fail
          go_big_region_o
          clear la lb sa sb
          generalize (wr.drew.setCells blk (off + (v + 1) * k) cJ).setCells blk (off + v * k) cI = w2 at S2 ⊢
          go_wp2
          go_roundg (v - i)
          case measure => omega
          case rel => exact ⟨v, swp dk (v + 1) v, by first | rfl | go_num, by omega, by omega, Nat.le_refl _, by rw [size_swp]; exact hds, S2, HDK2⟩
        · have hltz : ¬ (i : Int) < (u : Int) := by omega
          go_wp2
          refine bodyPost_ret (results_none rfl _ _ _) rfl ?_
          refine ⟨rfl, dk, ?_, hds, S1.out⟩
          rw [HDK.out, show u - i = 0 from by omega, HZ.out]
          simp
end Go.Proofs.Ytpafnadfoedheaa
