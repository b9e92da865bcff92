/-
  slices.symMergeCmpFunc at events: two sorted stretches, one behind the other, become the sorted stable one of both: neither is (gensym.py)
-/
import Derived.Test.YtpafnadfoedheaaSym1
import Derived.Lib.Hide
import Derived.Deep.Cut
namespace Go.Proofs.Ytpafnadfoedheaa
open Go.Sort Go.RowKit Go.Lib

variable {P : Program} {α : Type} [Inhabited α] {enc : α → List Value} {k : Nat}

theorem SymIH.use {key : α → Int} {g : Nat} {cb : Array Value} {d0 : Array α} {w0 : World} {blk off cap N : Nat} (H : SymIH (enc := enc) P k key g cb d0 w0 blk off cap N) {d : Array α} {w : World} {A X Y B : List α} {ai mi bi : Int} {len : Nat} (h1 : X.length + Y.length ≤ N)
    (h2 : d.size = d0.size) (h3 : SWK enc k w0 blk off d w) (h4 : d.toList = A ++ X ++ Y ++ B) (h5 : 0 < X.length) (h6 : 0 < Y.length) (h7 : Srt key X) (h8 : Srt key Y) (h9 : ai = A.length) (h10 : mi = (A.length + X.length : Nat)) (h11 : bi = (A.length + X.length + Y.length : Nat)) (h12 : len = d0.size) :
    Calls P 27 #[.slice (some ⟨blk, off, none⟩) len cap, .int .i64 ai, .int .i64 mi, .int .i64 bi, .func (.func g) #[] cb] w fun e w' => e = .returned (.tuple #[]) ∧ ∃ d', d'.toList = A ++ ssort key (X ++ Y) ++ B ∧ d'.size = d0.size ∧ SWK enc k w0 blk off d' w' :=
  H h1 h2 h3 h4 h5 h6 h7 h8 h9 h10 h11 h12

set_option maxHeartbeats 40000000 in
set_option maxRecDepth 1000000 in
theorem sym3 (F : SF P k) {key : α → Int} {cf : α → α → Int} (hcf : ∀ x y, cf x y < 0 ↔ key x < key y) {g : Nat} {cb : Array Value} (eg : ∀ args w, (callFunc g args).run P w = .ok (.enter g args) w) {d0 : Array α} {w0 : World} {blk off cap : Nat}
    (hcmp : CmpLays P g cb enc k cf blk off d0.size w0) (R : RowK enc k w0 blk off d0) (hsz : d0.size < 4611686018427387904) {N : Nat} (IH : SymIH (enc := enc) P k key g cb d0 w0 blk off cap N) {d : Array α} {w : World} {A X Y B : List α} {ai mi bi : Int} {len : Nat} (hN : X.length + Y.length ≤ N + 1)
    (hs : d.size = d0.size) (S : SWK enc k w0 blk off d w) (h : d.toList = A ++ X ++ Y ++ B) (hX : 0 < X.length) (hY : 0 < Y.length) (sX : Srt key X) (sY : Srt key Y) (ha : ai = A.length) (hm : mi = (A.length + X.length : Nat)) (hb : bi = (A.length + X.length + Y.length : Nat)) (hlen : len = d0.size) (hX1 : ¬ X.length = 1) (hY1 : ¬ Y.length = 1) :
    Calls P 27 #[.slice (some ⟨blk, off, none⟩) len cap, .int .i64 ai, .int .i64 mi, .int .i64 bi, .func (.func g) #[] cb] w fun e w' => e = .returned (.tuple #[]) ∧ ∃ d', d'.toList = A ++ ssort key (X ++ Y) ++ B ∧ d'.size = d0.size ∧ SWK enc k w0 blk off d' w' := by
  subst hlen
  have mixed := F.mixed; have t0 := F.t0; have a0 := F.a0; have z0 := F.z0; have v0 := F.v0; have t3 := F.t3; have a3 := F.a3; have z3 := F.z3; have v3 := F.v3; have t4 := F.t4; have a4 := F.a4; have z4 := F.z4; have v4 := F.v4; have t22 := F.tES; have a22 := F.aES; have z22 := F.zES; have v22 := F.vES; have t25 := F.tFN; have a25 := F.aFN; have z25 := F.zFN; have v25 := F.vFN; have t57 := F.tUI; have a57 := F.aUI; have z57 := F.zUI; have v57 := F.vUI; have aE := F.aE; have zE := F.zE
  have FG := F.fSy
  have S0 : Aside (SWK enc k w0 blk off d w) := S
  have HC : Aside _ := hcmp
  have IHH : Aside _ := @IH
  have hl : d.size = A.length + X.length + Y.length + B.length := by rw [← Array.length_toList, h]; simp [Nat.add_assoc]
  have H : Hid (d.toList = A ++ X ++ Y ++ B) := h
  have FH : Aside (SF P k) := F
  have HCF : Hid (∀ x y, cf x y < 0 ↔ key x < key y) := hcf
  clear S hcmp IH h F hcf
  go_enter FG, Try.ntmps27
  obtain ⟨a, rfl⟩ : ∃ a : Nat, ai = a := ⟨_, ha⟩
  obtain ⟨m, rfl⟩ : ∃ m : Nat, mi = m := ⟨_, hm⟩
  obtain ⟨b, rfl⟩ : ∃ b : Nat, bi = b := ⟨_, hb⟩
  have HA : Hid (a = A.length ∧ m = A.length + X.length ∧ b = A.length + X.length + Y.length) := ⟨by omega, by omega, by omega⟩
  have hm1 : ((m : Int) - (a : Int) == 1) = false := by rw [beq_eq_false_iff_ne]; omega
  have hb1 : ((b : Int) - (m : Int) == 1) = false := by rw [beq_eq_false_iff_ne]; omega
  have hab : a + 2 ≤ m := by omega
  have hmb : m + 2 ≤ b := by omega
  have hbs : b ≤ d.size := by omega
  have HN : Hid (X.length + Y.length ≤ N + 1) := hN
  clear ha hm hb hN hl hX1 hY1
  have hsX : ∀ p q, a ≤ p → p ≤ q → q < m → key d[p]! ≤ key d[q]! := fun p q h1 h2 h3 => srt_mid (A := A) (X := X) (B := Y ++ B) (by rw [H.out]; simp) sX (by have := HA.out; omega) h2 (by have := HA.out; omega)
  have HSX : Hid _ := hsX
  have hsY : ∀ p q, m ≤ p → p ≤ q → q < b → key d[p]! ≤ key d[q]! := fun p q h1 h2 h3 => srt_mid (A := A ++ X) (X := Y) (B := B) (by rw [H.out]) sY (by have := HA.out; simp; omega) h2 (by have := HA.out; simp; omega)
  have HSY : Hid _ := hsY
  clear hsX hsY
  have emid : ((a : Int) + (b : Int)) / 2 = (((a + b) / 2 : Nat) : Int) := by omega
  obtain ⟨mid, hmid⟩ : ∃ mid, mid = (a + b) / 2 := ⟨_, rfl⟩
  rw [← hmid] at emid
  have q1 : a < mid := by omega
  have q2 : mid < b := by omega
  have q3 : mid - a ≤ b - mid := by omega
  have q4 : b - mid ≤ mid - a + 1 := by omega
  clear hmid
  have bb : (a : Int) + (b : Int) ≤ 9223372036854775807 := by omega
  obtain ⟨lo, hi, hlohi⟩ : ∃ lo hi : Nat, (mid < m ∧ lo + b = mid + m ∧ hi = mid) ∨ (m ≤ mid ∧ lo = a ∧ hi = m) := by
    by_cases hc : mid < m
    · exact ⟨mid + m - b, mid, .inl ⟨hc, by omega, rfl⟩⟩
    · exact ⟨a, m, .inr ⟨by omega, rfl, rfl⟩⟩
  have HLH : Hid _ := hlohi
  have key1 : Hid (∀ c c', lo ≤ c → c ≤ c' → c' < hi → key d[c]! ≤ key d[c']! ∧ key d[mid + m - 1 - c']! ≤ key d[mid + m - 1 - c]!) := fun c c' h1 h2 h3 => by
    have hlh := HLH.out
    exact ⟨HSX.out c c' (by omega) h2 (by omega), HSY.out _ _ (by omega) (by omega) (by omega)⟩
  have hhm : hi ≤ m := by have := HLH.out; omega
  clear hlohi
  go_upto_if 140 with fail
  go_cut [20, 21] from 25 (fun s20 s21 wc => s20 = .int .i64 lo ∧ s21 = .int .i64 hi ∧ Aside (SWK enc k w0 blk off d wc))
  case first =>
    by_cases hmm : mid < m
    · have hmz : (mid : Int) < (m : Int) := by omega
      have hlo : (mid : Int) + (m : Int) - (b : Int) = (lo : Int) := by have := HLH.out; omega
      have HHI : Hid ((mid : Int) = (hi : Int)) := by have := HLH.out; show _ = _; omega
      go_wp2_with fail
      go_meet
      case rel => exact ⟨rfl, congrArg (Value.int .i64) HHI.out, S0⟩
    · have hmz : ¬ (mid : Int) < (m : Int) := by omega
      have HLO : Hid ((a : Int) = (lo : Int)) := by have := HLH.out; show _ = _; omega
      have HHI : Hid ((m : Int) = (hi : Int)) := by have := HLH.out; show _ = _; omega
      go_wp2_with fail
      go_meet
      case rel => exact ⟨congrArg (Value.int .i64) HLO.out, congrArg (Value.int .i64) HHI.out, S0⟩
  case rest =>
    obtain ⟨rfl, rfl, S0c⟩ := hcut
    clear S0
    go_wp2_with fail
    go_loopg [20, 21, 23] (hi - lo) (fun kx s20 s21 s23 wr => ∃ (i j : Nat), s20 = .int .i64 i ∧ s21 = .int .i64 j ∧ lo ≤ i ∧ i ≤ j ∧ j ≤ hi ∧ j - i ≤ kx ∧ Aside (SWK enc k w0 blk off d wr) ∧
      Hid ((∀ c, lo ≤ c → c < i → key d[c]! ≤ key d[mid + m - 1 - c]!) ∧ (∀ c, j ≤ c → c < hi → key d[mid + m - 1 - c]! < key d[c]!)))
    case atStart => exact ⟨lo, hi, rfl, rfl, Nat.le_refl _, by have := HLH.out; omega, Nat.le_refl _, Nat.le_refl _, S0c, ⟨fun c h1 h2 => by omega, fun c h1 h2 => by omega⟩⟩
    case round =>
      clear S0c
      obtain ⟨i, j, rfl, rfl, hmi, hij, hjb, hkx, S1, HI⟩ := hrel
      by_cases hlt : i < j
      · have hltz : (i : Int) < (j : Int) := by omega
        go_wp2_with fail
        have eh : ((i : Int) + (j : Int)) / 2 = (((i + j) / 2 : Nat) : Int) := by omega
        rw [eh]
        have hq1 : i ≤ (i + j) / 2 := by omega
        have hq2 : (i + j) / 2 < j := by omega
        clear eh
        generalize (i + j) / 2 = q at *
        obtain ⟨pc, hpc⟩ : ∃ pc, pc = mid + m - 1 - q := ⟨_, rfl⟩
        have hqm : q < m := by have := HLH.out; omega
        have ep : (mid : Int) + (m : Int) - 1 - (q : Int) = (pc : Int) := by omega
        have hpb : pc < d0.size := by have := HLH.out; omega
        have eq : ((q : Int)).toNat = q := by omega
        have pq : (0 : Int) ≤ (q : Int) := by omega
        have bq : (q : Int) < (d0.size : Int) := by omega
        have rq : IntKind.i64.wrap ((q : Int)) = (q : Int) := by rw [IntKind.wrap_i64]; omega
        have eadd : (mid : Int) + (m : Int) - 1 = (pc : Int) + (q : Int) := by omega
        have esub : (pc : Int) + (q : Int) - (q : Int) = (pc : Int) := by omega
        rw [eadd]
        have EADD : Hid ((pc : Int) + (q : Int) = (mid : Int) + (m : Int) - 1) := eadd.symm
        clear eadd ep
        have ea : ((pc : Int)).toNat = pc := by omega
        have pa : (0 : Int) ≤ (pc : Int) := by omega
        have ba : (pc : Int) < (d0.size : Int) := by omega
        have ra : IntKind.i64.wrap ((pc : Int)) = (pc : Int) := by rw [IntKind.wrap_i64]; omega
        have la := S1.out.ld R (by omega) P q (by omega)
        have lb := S1.out.ld R (by omega) P pc (by omega)
        have hc := S1.out.cmp HC.out (by omega) d[pc]! d[q]!
        have hcf1 := HCF.out d[pc]! d[q]!
        have HPC : Hid (pc = mid + m - 1 - q) := hpc
        clear hpc
        by_cases hlv : cf d[pc]! d[q]! < 0
        · have hk := hcf1.1 hlv
          have HI2 : Hid ((∀ c, lo ≤ c → c < i → key d[c]! ≤ key d[mid + m - 1 - c]!) ∧ (∀ c, q ≤ c → c < hi → key d[mid + m - 1 - c]! < key d[c]!)) := ⟨HI.out.1, fun c h1 h2 => by have := key1.out q c (by omega) h1 h2; rw [← HPC.out] at this; omega⟩
          have hd1 : decide (cf d[pc]! d[q]! < 0) = true := decide_eq_true hlv
          clear hcf1 hk HI
          generalize d[q]! = xq at *
          generalize d[pc]! = xa at la lb hc hlv hd1 ⊢
          go_wp2_with fail
          go_quiet_grown (first | (go_at_fn g; refine Calls.grown_of (hc _ _)))
          have S2 : Aside (SWK enc k w0 blk off d (grow (wr.drewN nq) osq)) := S1.out.grown nq osq
          clear la lb hc S1
          generalize grow (wr.drewN nq) osq = w2 at S2 ⊢
          go_wp2
          rw [EADD.out]
          go_roundg (q - i)
          case measure => omega
          case rel => exact ⟨i, q, rfl, rfl, hmi, by omega, by omega, Nat.le_refl _, S2, HI2⟩
        · have hk : key d[q]! ≤ key d[pc]! := by have := mt hcf1.2 hlv; omega
          have HI2 : Hid ((∀ c, lo ≤ c → c < q + 1 → key d[c]! ≤ key d[mid + m - 1 - c]!) ∧ (∀ c, j ≤ c → c < hi → key d[mid + m - 1 - c]! < key d[c]!)) := ⟨fun c h1 h2 => by have := key1.out c q h1 (by omega) (by omega); rw [← HPC.out] at this; omega, HI.out.2⟩
          have hd1 : decide (cf d[pc]! d[q]! < 0) = false := decide_eq_false hlv
          clear hcf1 hk HI
          generalize d[q]! = xq at *
          generalize d[pc]! = xa at la lb hc hlv hd1 ⊢
          go_wp2_with fail
          go_quiet_grown (first | (go_at_fn g; refine Calls.grown_of (hc _ _)))
          have S2 : Aside (SWK enc k w0 blk off d (grow (wr.drewN nq) osq)) := S1.out.grown nq osq
          clear la lb hc S1
          generalize grow (wr.drewN nq) osq = w2 at S2 ⊢
          go_wp2
          rw [EADD.out]
          go_roundg (j - (q + 1))
          case measure => omega
          case rel => exact ⟨q + 1, j, by go_num, rfl, by omega, by omega, hjb, Nat.le_refl _, S2, HI2⟩
      · obtain rfl : i = j := by omega
        obtain ⟨e, he⟩ : ∃ e, e = mid + m - i := ⟨_, rfl⟩
        have hlh := HLH.out
        have f1 : a ≤ i := by omega
        have f2 : i ≤ mid := by omega
        have f3 : m ≤ e := by omega
        have f4 : mid ≤ e := by omega
        have f5 : e ≤ b := by omega
        have f7 : i ≤ m := by omega
        have f6 : e + i = mid + m := by omega
        have hpt := parts_of H.out sX sY HA.out.1 HA.out.2.1 HA.out.2.2 hlh hmi hjb f1 f3 f5 f6 HI.out.1 HI.out.2
        have eend : (mid : Int) + (m : Int) - (i : Int) = (e : Int) := by omega
        have HE : Hid (e + i = mid + m) := f6
        clear hlh he HI f6
        obtain ⟨X1, hX1⟩ : ∃ l, l = X.take (i - a) := ⟨_, rfl⟩
        obtain ⟨X2, hX2⟩ : ∃ l, l = X.drop (i - a) := ⟨_, rfl⟩
        obtain ⟨Y1, hY1⟩ : ∃ l, l = Y.take (e - m) := ⟨_, rfl⟩
        obtain ⟨Y2, hY2⟩ : ∃ l, l = Y.drop (e - m) := ⟨_, rfl⟩
        rw [← hX1, ← hX2, ← hY1, ← hY2] at hpt
        have eX : X = X1 ++ X2 := by rw [hX1, hX2, List.take_append_drop]
        have eY : Y = Y1 ++ Y2 := by rw [hY1, hY2, List.take_append_drop]
        have HLn : Hid (X1.length = i - a ∧ X2.length = m - i ∧ Y1.length = e - m ∧ Y2.length = b - e ∧ A.length = a) := by
          have := HA.out
          refine ⟨?_, ?_, ?_, ?_, this.1.symm⟩
          · rw [hX1, List.length_take]; omega
          · rw [hX2, List.length_drop]; omega
          · rw [hY1, List.length_take]; omega
          · rw [hY2, List.length_drop]; omega
        have sX' : Srt key (X1 ++ X2) := by rw [← eX]; exact sX
        have sY' : Srt key (Y1 ++ Y2) := by rw [← eY]; exact sY
        have HZ : Hid (ssort key (X1 ++ Y1) ++ ssort key (X2 ++ Y2) = ssort key (X ++ Y)) := by
          show _ = _
          rw [eX, eY]
          exact ssort_halves sX' sY' hpt.1 hpt.2
        have HD : Hid (d.toList = A ++ X1 ++ X2 ++ Y1 ++ (Y2 ++ B)) := by show _ = _; rw [H.out, eX, eY]; simp
        have HNN : Hid (X1.length + Y1.length ≤ N ∧ X2.length + Y2.length ≤ N) := by
          have := HN.out
          have := HA.out
          have := HLn.out
          exact ⟨by have := HE.out; omega, by have := HE.out; omega⟩
        have sX1 : Srt key X1 := (List.pairwise_append.1 sX').1
        have sX2 : Srt key X2 := (List.pairwise_append.1 sX').2.1
        have sY1 : Srt key Y1 := (List.pairwise_append.1 sY').1
        have sY2 : Srt key Y2 := (List.pairwise_append.1 sY').2.1
        have e28 : ∀ args w, (callFunc 28 args).run P w = .ok (.enter 28 args) w := enters_of FH.out.fRo rfl rfl
        have e27 : ∀ args w, (callFunc 27 args).run P w = .ok (.enter 27 args) w := enters_of FH.out.fSy rfl rfl
        have hae : i ≤ d0.size := by omega
        clear hpt hX1 hX2 hY1 hY2 eX eY sX' sY' H HSX HSY sX sY
        go_upto_region 39 with fail
        clear eend
        go_cut [185] from 178 (fun s wx => s = .bool (decide (i < m) && decide (m < e)) ∧ wx = wr)
        case first =>
          by_cases c1 : i < m
          · have c1z : (i : Int) < (m : Int) := by omega
            have c1d : decide ((i : Int) < (m : Int)) = true := decide_eq_true c1z
            by_cases c2 : m < e
            · have c2z : (m : Int) < (e : Int) := by omega
              have c2d : decide ((m : Int) < (e : Int)) = true := decide_eq_true c2z
              go_wp2_with fail
              go_meet
              case rel => exact ⟨by simp [c1, c2], rfl⟩
            · have c2z : ¬ (m : Int) < (e : Int) := by omega
              have c2d : decide ((m : Int) < (e : Int)) = false := decide_eq_false c2z
              go_wp2_with fail
              go_meet
              case rel => exact ⟨by simp [c1, c2], rfl⟩
          · have c1z : ¬ (i : Int) < (m : Int) := by omega
            have c1d : decide ((i : Int) < (m : Int)) = false := decide_eq_false c1z
            go_wp2_with fail
            go_meet
            case rel => exact ⟨by simp [c1], rfl⟩
        case rest =>
          obtain ⟨rfl, rfl⟩ := hcut
          go_upto_if 185 with fail
          go_cut [] from 178 (fun wc => ∃ d1 : Array α, d1.size = d0.size ∧ Hid (d1.toList = A ++ X1 ++ Y1 ++ X2 ++ (Y2 ++ B)) ∧ Aside (SWK enc k w0 blk off d1 wc))
          case first =>
            generalize hq : (decide (i < m) && decide (m < e)) = tt
            by_cases hc : i < m ∧ m < e
            · obtain rfl : tt = true := by rw [← hq]; simp [hc.1, hc.2]
              have CC := fun f => rotate_at FH.out (cap := cap) (A := A ++ X1) (U := X2) (V := Y1) (B := Y2 ++ B) R hs S1.out (by rw [HD.out]) (ai := i) (mi := m) (bi := e) (len := d0.size) (by have := HLn.out; omega) (by have := HLn.out; omega) (by have := HLn.out; simp; omega) (by have := HLn.out; simp; omega) (by have := HLn.out; simp; omega) rfl hsz f
              have CH := Go.Lib.hid CC
              clear CC S1 hc hq
              go_wp2_with (go_at_fn 28; refine (CH.out _).mono ?_; rintro ex w1 ⟨rfl, d1, hd1, hs1, S2⟩)
              go_meet
              case rel => exact ⟨d1, hs1, hd1, S2⟩
            · obtain rfl : tt = false := by
                rw [← hq]
                by_cases c1 : i < m
                · have c2 : ¬ m < e := fun h => hc ⟨c1, h⟩
                  simp [c2]
                · simp [c1]
              have hD1 : Hid (d.toList = A ++ X1 ++ Y1 ++ X2 ++ (Y2 ++ B)) := by
                show _ = _
                rw [HD.out]
                by_cases c1 : i < m
                · have : Y1 = [] := List.length_eq_zero_iff.1 (by have := HLn.out; have c2 : ¬ m < e := fun h => hc ⟨c1, h⟩; omega)
                  subst this; simp
                · have : X2 = [] := List.length_eq_zero_iff.1 (by have := HLn.out; omega)
                  subst this; simp
              clear hc hq
              go_wp2_with fail
              go_meet
              case rel => exact ⟨d, hs, hD1, S1⟩
          case rest =>
            obtain ⟨d1, hs1, HD1, S2⟩ := hcut
            clear S1 HD
            go_upto_region 41 with fail
            go_cut [199] from 178 (fun s wx => s = .bool (decide (a < i) && decide (i < mid)) ∧ wx = wc)
            case first =>
              by_cases c1 : a < i
              · have c1z : (a : Int) < (i : Int) := by omega
                have c1d : decide ((a : Int) < (i : Int)) = true := decide_eq_true c1z
                by_cases c2 : i < mid
                · have c2z : (i : Int) < (mid : Int) := by omega
                  have c2d : decide ((i : Int) < (mid : Int)) = true := decide_eq_true c2z
                  go_wp2_with fail
                  go_meet
                  case rel => exact ⟨by simp [c1, c2], rfl⟩
                · have c2z : ¬ (i : Int) < (mid : Int) := by omega
                  have c2d : decide ((i : Int) < (mid : Int)) = false := decide_eq_false c2z
                  go_wp2_with fail
                  go_meet
                  case rel => exact ⟨by simp [c1, c2], rfl⟩
              · have c1z : ¬ (a : Int) < (i : Int) := by omega
                have c1d : decide ((a : Int) < (i : Int)) = false := decide_eq_false c1z
                go_wp2_with fail
                go_meet
                case rel => exact ⟨by simp [c1], rfl⟩
            case rest =>
              obtain ⟨rfl, rfl⟩ := hcut
              go_upto_if 199 with fail
              go_cut [] from 178 (fun wc => ∃ d2 : Array α, d2.size = d0.size ∧ Hid (d2.toList = (A ++ ssort key (X1 ++ Y1)) ++ X2 ++ Y2 ++ B) ∧ Aside (SWK enc k w0 blk off d2 wc))
              case first =>
                generalize hq : (decide (a < i) && decide (i < mid)) = tt
                by_cases hc : a < i ∧ i < mid
                · obtain rfl : tt = true := by rw [← hq]; simp [hc.1, hc.2]
                  have CC := SymIH.use IHH.out (A := A) (X := X1) (Y := Y1) (B := X2 ++ (Y2 ++ B)) HNN.out.1 hs1 S2.out (by rw [HD1.out]; simp) (by have := HLn.out; omega) (by have := HLn.out; have := HE.out; omega) sX1 sY1 (ai := a) (mi := i) (bi := mid) (len := d0.size) (by have := HLn.out; omega) (by have := HLn.out; omega) (by have := HLn.out; have := HE.out; omega) rfl
                  have CH := Go.Lib.hid CC
                  clear CC S2 hc hq
                  go_wp2_with (go_at_fn 27; refine (CH.out).mono ?_; rintro ex w1 ⟨rfl, d2, hd2, hs2, S3⟩)
                  go_meet
                  case rel => exact ⟨d2, hs2, by show _ = _; rw [hd2]; simp, S3⟩
                · obtain rfl : tt = false := by
                    rw [← hq]
                    by_cases c1 : a < i
                    · have c2 : ¬ i < mid := fun h => hc ⟨c1, h⟩
                      simp [c2]
                    · simp [c1]
                  have hD1 : Hid (d1.toList = (A ++ ssort key (X1 ++ Y1)) ++ X2 ++ Y2 ++ B) := by
                    show _ = _
                    rw [HD1.out]
                    by_cases c1 : a < i
                    · have : Y1 = [] := List.length_eq_zero_iff.1 (by have := HLn.out; have := HE.out; have c2 : ¬ i < mid := fun h => hc ⟨c1, h⟩; omega)
                      subst this; rw [List.append_nil X1, ssort_srtd sX1]; simp
                    · have : X1 = [] := List.length_eq_zero_iff.1 (by have := HLn.out; omega)
                      subst this; rw [List.nil_append, ssort_srtd sY1]; simp
                  clear hc hq
                  go_wp2_with fail
                  go_meet
                  case rel => exact ⟨d1, hs1, hD1, S2⟩
              case rest =>
                obtain ⟨d2, hs2, HD2, S3⟩ := hcut
                clear S2 HD1
                go_upto_region 43 with fail
                go_cut [213] from 178 (fun s wx => s = .bool (decide (mid < e) && decide (e < b)) ∧ wx = wc)
                case first =>
                  by_cases c1 : mid < e
                  · have c1z : (mid : Int) < (e : Int) := by omega
                    have c1d : decide ((mid : Int) < (e : Int)) = true := decide_eq_true c1z
                    by_cases c2 : e < b
                    · have c2z : (e : Int) < (b : Int) := by omega
                      have c2d : decide ((e : Int) < (b : Int)) = true := decide_eq_true c2z
                      go_wp2_with fail
                      go_meet
                      case rel => exact ⟨by simp [c1, c2], rfl⟩
                    · have c2z : ¬ (e : Int) < (b : Int) := by omega
                      have c2d : decide ((e : Int) < (b : Int)) = false := decide_eq_false c2z
                      go_wp2_with fail
                      go_meet
                      case rel => exact ⟨by simp [c1, c2], rfl⟩
                  · have c1z : ¬ (mid : Int) < (e : Int) := by omega
                    have c1d : decide ((mid : Int) < (e : Int)) = false := decide_eq_false c1z
                    go_wp2_with fail
                    go_meet
                    case rel => exact ⟨by simp [c1], rfl⟩
                case rest =>
                  obtain ⟨rfl, rfl⟩ := hcut
                  have hlS : Hid ((ssort key (X1 ++ Y1)).length = mid - a) := by
                    show _ = _
                    rw [ssort_length, List.length_append]
                    have := HLn.out
                    have := HE.out
                    omega
                  generalize hq : (decide (mid < e) && decide (e < b)) = tt
                  by_cases hc : mid < e ∧ e < b
                  · obtain rfl : tt = true := by rw [← hq]; simp [hc.1, hc.2]
                    have CC := SymIH.use IHH.out (A := A ++ ssort key (X1 ++ Y1)) (X := X2) (Y := Y2) (B := B) HNN.out.2 hs2 S3.out (by rw [HD2.out]) (by have := HLn.out; have := HE.out; omega) (by have := HLn.out; omega) sX2 sY2 (ai := mid) (mi := e) (bi := b) (len := d0.size) (by have := HLn.out; have := hlS.out; simp; omega) (by have := HLn.out; have := hlS.out; have := HE.out; simp; omega) (by have := HLn.out; have := hlS.out; have := HE.out; simp; omega) rfl
                    have CH := Go.Lib.hid CC
                    clear CC S3 hc hq
                    go_wp2_with (go_at_fn 27; refine (CH.out).mono ?_; rintro ex w1 ⟨rfl, d3, hd3, hs3, S4⟩)
                    go_end0
                    refine ⟨rfl, d3, ?_, hs3, S4⟩
                    rw [hd3, ← HZ.out]; simp
                  · obtain rfl : tt = false := by
                      rw [← hq]
                      by_cases c1 : mid < e
                      · have c2 : ¬ e < b := fun h => hc ⟨c1, h⟩
                        simp [c2]
                      · simp [c1]
                    have hD1 : Hid (d2.toList = A ++ ssort key (X ++ Y) ++ B) := by
                      show _ = _
                      rw [HD2.out, ← HZ.out]
                      by_cases c1 : mid < e
                      · have : Y2 = [] := List.length_eq_zero_iff.1 (by have := HLn.out; have c2 : ¬ e < b := fun h => hc ⟨c1, h⟩; omega)
                        subst this; rw [List.append_nil X2, ssort_srtd sX2]; simp
                      · have : X2 = [] := List.length_eq_zero_iff.1 (by have := HLn.out; have := HE.out; omega)
                        subst this; rw [List.nil_append, ssort_srtd sY2]; simp
                    clear hc hq
                    go_wp2_with fail
                    go_end0
                    exact ⟨rfl, d2, hD1.out, hs2, S3.out⟩
end Go.Proofs.Ytpafnadfoedheaa
