/-
  Arguments opened: slices of events.
-/
import Derived.Test.YtenlhfmchhljdaaDoorMqb
import Derived.Test.YtenlhfmchhljdaaDoorOr
import Derived.Test.YtenlhfmchhljdaaDoorRows
import Derived.Deep.Slices
import Derived.Deep.Fields
import Derived.ChangeSame
import Derived.ChangeArms
import Derived.Lib.LaidTab
namespace Go.Proofs.YtenlhfmchhljdaaDoor
open Go.ChangeShapes Go.WideShapes Go.ChangeAt Go.RowKit Go.Deep
set_option maxRecDepth 100000

def Wf64 (x : Int) : Prop := (Lit.int .i64 x).wf = true
def evCells (e : Evt) : List Value := [.int .i64 e.k, .int .i64 e.st, .int .i64 e.t, .int .i64 e.f, .int .i64 e.at_, .int .i64 e.ln, .int .i64 e.A, .int .i64 e.B, .int .i64 e.vk, .int .i64 e.vn, .int .i64 e.ok, .int .i64 e.on]
section
variable {H : Type} {enc : TypeId × Value → H} {w : World} {base : Nat} {spare : Nat → Bool} {held : Bool} {fuel : Nat}
theorem trod_one {t : TypeId} (ht : Tryd.prog.underlying t = some (.int .i64)) {xs : List (DataW H × List MemPlace)} {i : Nat} (hi : i < xs.length) {v : Value}
    (h : DataW.trod enc Tryd.prog w base spare held fuel t [v] = xs[i]?) : ∃ n, v = .int .i64 n ∧ Wf64 n := by
  rw [List.getElem?_eq_getElem hi] at h
  obtain ⟨n, h1, -, h2⟩ := DataW.trod_int ht h
  exact ⟨n, by simpa using h1, h2⟩

theorem trod_val2 {a b : Value} {x : DataW H × List MemPlace} (h : DataW.trod enc Tryd.prog w base spare held fuel 36 [a, b] = some x) : ∃ m n, a = .int .i64 m ∧ b = .int .i64 n ∧ Wf64 m ∧ Wf64 n := by
  obtain ⟨xs, n', -, -, -, hlen, hf⟩ := DataW.trod_struct Tryd.underlying36 h
  have hc3 : Tryd.prog.cellsOf 3 = 1 := by kernel_rfl
  have h0 : DataW.trod enc Tryd.prog w base spare held n' 3 (([a, b].drop 0).take (Tryd.prog.cellsOf 3)) = xs[0]? := hf 0 _ rfl
  have h1 : DataW.trod enc Tryd.prog w base spare held n' 3 (([a, b].drop 1).take (Tryd.prog.cellsOf 3)) = xs[1]? := hf 1 _ rfl
  rw [hc3] at h0 h1
  obtain ⟨m, rfl, hm⟩ := trod_one Tryd.underlying3 (by rw [hlen]; decide) h0
  obtain ⟨n, rfl, hn⟩ := trod_one Tryd.underlying3 (by rw [hlen]; decide) h1
  exact ⟨m, n, rfl, rfl, hm, hn⟩

theorem trod_ev {cs : List Value} {x : DataW H × List MemPlace} (h : DataW.trod enc Tryd.prog w base spare held fuel 38 cs = some x) : ∃ e : Evt, cs = evCells e := by
  obtain ⟨xs, n', -, -, hcl, hlen, hf⟩ := DataW.trod_struct Tryd.underlying38 h
  have hc3 : Tryd.prog.cellsOf 3 = 1 := by kernel_rfl
  have hcv : Tryd.prog.cellsOf 36 = 2 := by kernel_rfl
  have hce : Tryd.prog.cellsOf 38 = 12 := by kernel_rfl
  rw [hce] at hcl
  rcases cs with _ | ⟨a0, cs⟩ <;> simp at hcl
  rcases cs with _ | ⟨a1, cs⟩ <;> simp at hcl
  rcases cs with _ | ⟨a2, cs⟩ <;> simp at hcl
  rcases cs with _ | ⟨a3, cs⟩ <;> simp at hcl
  rcases cs with _ | ⟨a4, cs⟩ <;> simp at hcl
  rcases cs with _ | ⟨a5, cs⟩ <;> simp at hcl
  rcases cs with _ | ⟨a6, cs⟩ <;> simp at hcl
  rcases cs with _ | ⟨a7, cs⟩ <;> simp at hcl
  rcases cs with _ | ⟨a8, cs⟩ <;> simp at hcl
  rcases cs with _ | ⟨a9, cs⟩ <;> simp at hcl
  rcases cs with _ | ⟨a10, cs⟩ <;> simp at hcl
  rcases cs with _ | ⟨a11, cs⟩ <;> simp at hcl
  subst hcl
  have h0 : DataW.trod enc Tryd.prog w base spare held n' 3 (([a0, a1, a2, a3, a4, a5, a6, a7, a8, a9, a10, a11].drop 0).take (Tryd.prog.cellsOf 3)) = xs[0]? := hf 0 _ rfl
  have h1 : DataW.trod enc Tryd.prog w base spare held n' 3 (([a0, a1, a2, a3, a4, a5, a6, a7, a8, a9, a10, a11].drop 1).take (Tryd.prog.cellsOf 3)) = xs[1]? := hf 1 _ rfl
  have h2 : DataW.trod enc Tryd.prog w base spare held n' 3 (([a0, a1, a2, a3, a4, a5, a6, a7, a8, a9, a10, a11].drop 2).take (Tryd.prog.cellsOf 3)) = xs[2]? := hf 2 _ rfl
  have h3 : DataW.trod enc Tryd.prog w base spare held n' 3 (([a0, a1, a2, a3, a4, a5, a6, a7, a8, a9, a10, a11].drop 3).take (Tryd.prog.cellsOf 3)) = xs[3]? := hf 3 _ rfl
  have h4 : DataW.trod enc Tryd.prog w base spare held n' 3 (([a0, a1, a2, a3, a4, a5, a6, a7, a8, a9, a10, a11].drop 4).take (Tryd.prog.cellsOf 3)) = xs[4]? := hf 4 _ rfl
  have h5 : DataW.trod enc Tryd.prog w base spare held n' 3 (([a0, a1, a2, a3, a4, a5, a6, a7, a8, a9, a10, a11].drop 5).take (Tryd.prog.cellsOf 3)) = xs[5]? := hf 5 _ rfl
  have h6 : DataW.trod enc Tryd.prog w base spare held n' 3 (([a0, a1, a2, a3, a4, a5, a6, a7, a8, a9, a10, a11].drop 6).take (Tryd.prog.cellsOf 3)) = xs[6]? := hf 6 _ rfl
  have h7 : DataW.trod enc Tryd.prog w base spare held n' 3 (([a0, a1, a2, a3, a4, a5, a6, a7, a8, a9, a10, a11].drop 7).take (Tryd.prog.cellsOf 3)) = xs[7]? := hf 7 _ rfl
  have h8 : DataW.trod enc Tryd.prog w base spare held n' 36 (([a0, a1, a2, a3, a4, a5, a6, a7, a8, a9, a10, a11].drop 8).take (Tryd.prog.cellsOf 36)) = xs[8]? := hf 8 _ rfl
  have h9 : DataW.trod enc Tryd.prog w base spare held n' 36 (([a0, a1, a2, a3, a4, a5, a6, a7, a8, a9, a10, a11].drop 10).take (Tryd.prog.cellsOf 36)) = xs[9]? := hf 9 _ rfl
  rw [hc3] at h0 h1 h2 h3 h4 h5 h6 h7
  rw [hcv] at h8 h9
  obtain ⟨n0, rfl, w0⟩ := trod_one Tryd.underlying3 (by rw [hlen]; decide) h0
  obtain ⟨n1, rfl, w1⟩ := trod_one Tryd.underlying3 (by rw [hlen]; decide) h1
  obtain ⟨n2, rfl, w2⟩ := trod_one Tryd.underlying3 (by rw [hlen]; decide) h2
  obtain ⟨n3, rfl, w3⟩ := trod_one Tryd.underlying3 (by rw [hlen]; decide) h3
  obtain ⟨n4, rfl, w4⟩ := trod_one Tryd.underlying3 (by rw [hlen]; decide) h4
  obtain ⟨n5, rfl, w5⟩ := trod_one Tryd.underlying3 (by rw [hlen]; decide) h5
  obtain ⟨n6, rfl, w6⟩ := trod_one Tryd.underlying3 (by rw [hlen]; decide) h6
  obtain ⟨n7, rfl, w7⟩ := trod_one Tryd.underlying3 (by rw [hlen]; decide) h7
  rw [List.getElem?_eq_getElem (by rw [hlen]; decide)] at h8 h9
  obtain ⟨n8, n9, rfl, rfl, w8, w9⟩ := trod_val2 h8
  obtain ⟨n10, n11, rfl, rfl, w10, w11⟩ := trod_val2 h9
  exact ⟨⟨n0, n1, n2, n3, n4, n5, n6, n7, n8, n9, n10, n11⟩, rfl⟩

theorem reps_vs {S : Sm} : ∀ (xs : List Value), (∀ x ∈ xs, x.oneCell' = true) → RepDs S (xs.map .v) xs
  | [], _ => .nil
  | x :: xs, h => .cons (.v (h x (by simp))) (h x (by simp)) (reps_vs xs fun y hy => h y (by simp [hy]))
theorem opn_ev : Opn enc Tryd.prog w base spare held 38 evD (fun _ => True) := fun _ cs x h => by
  obtain ⟨e, rfl⟩ := trod_ev h
  refine ⟨e, trivial, ?_⟩
  have := reps_vs (S := allS w) (evCells e) (by intro x hx; simp [evCells] at hx; rcases hx with rfl | rfl | rfl | rfl | rfl | rfl | rfl | rfl | rfl | rfl | rfl | rfl <;> rfl)
  exact this
theorem opn_evs : Opn enc Tryd.prog w base spare held 22 (fun l : List Evt => evsD l) (fun _ => True) := fun fuel cs x h => by
  obtain ⟨l, -, hr⟩ := Opn.sl (k := 12) (E := 38) (f := evD) Tryd.underlying22 (by kernel_rfl) (by decide) opn_ev fuel cs x h
  exact ⟨l, trivial, hr⟩
end
theorem own : ownKnob Tryd.prog.godebug = none := by kernel_rfl
theorem laidOut : laidOutB Tryd.prog = true := by kernel_rfl
/-- A cell that reads as an interface that holds something. -/
theorem err_of {H : Type} {enc : TypeId × Value → H} {w : World} {base : Nat} {sp : Nat → Bool} {fuel : Nat} {t : TypeId} {ms : Array (String × TypeId)} {cs : List Value} {n : String} {d : DataW H} {p : List MemPlace} (ht : Tryd.prog.underlying t = some (.interface ms))
    (h : DataW.trod enc Tryd.prog w base sp false fuel t cs = some (.iface n d, p)) : ∃ u v, cs = [.iface u v] := by
  cases fuel with
  | zero => simp [DataW.trod] at h
  | succ fuel =>
    match cs with
    | [] => simp [DataW.trod, ht] at h
    | [x] => cases x <;> first | exact ⟨_, _, rfl⟩ | (simp [DataW.trod, ht] at h)
    | x :: y :: l => simp [DataW.trod, ht] at h
theorem var_block {W : World} {name : String} {g : Nat} {cs : Array Value} (hg : Tryd.prog.globalNamed name = some g) (h : W.var? Tryd.prog name = some cs) : ∃ t fr, W.heap[g]? = some (.cells cs t fr) := by
  unfold World.var? at h
  rw [hg] at h
  simp only [Option.bind_some] at h
  split at h
  · next cs' t fr hh => cases h; exact ⟨t, fr, hh⟩
  · cases h
theorem bulk_pos {H : Type} (d : DataW H) : 1 ≤ Rows.uptoBulk d := by
  cases d with
  | lit x => cases x <;> simp [Rows.uptoBulk]
  | _ => simp [Rows.uptoBulk]
theorem bulk_all {H : Type} : ∀ l : List (DataW H), l.length ≤ Rows.uptoBulkAll l
  | [] => Nat.le_refl _
  | d :: l => by
    have h1 := bulk_pos d
    have h2 := bulk_all l
    rw [List.length_cons, Rows.uptoBulkAll]; omega
/-- How long a slice is that reads so. -/
theorem len_bulk {H : Type} {enc : TypeId × Value → H} {w : World} {base : Nat} {sp : Nat → Bool} {held : Bool} {T E : TypeId} {S : Sm} {k : Nat} {l : List D} {v : Value} {d : DataW H} {ps : List MemPlace} (ht : Tryd.prog.underlying T = some (.slice E))
    (h : DataW.Trod enc Tryd.prog w base sp held T v d ps) (hr : RepD S (.sl k l) v) : l.length ≤ Rows.uptoBulk d := by
  obtain ⟨fuel, h⟩ := h
  cases hr with
  | @sl _ _ p cap xs h1 h2 h3 h4 h5 =>
    have e : (Value.slice p l.length cap).cells.toList = [.slice p l.length cap] := rfl
    rw [e] at h
    rcases DataW.trod_slice ht h with ⟨hc, hx⟩ | ⟨a, len, cap', elems, rest, n, -, hcs, hx, -, -, -, hlen, -⟩
    · simp only [List.cons.injEq, Value.slice.injEq, and_true] at hc
      rw [hc.2.1]; exact Nat.zero_le _
    · simp only [List.cons.injEq, Value.slice.injEq, and_true] at hcs
      simp only [Prod.mk.injEq] at hx
      rw [hx.1, Rows.uptoBulk]
      have := bulk_all (elems.map (·.1))
      rw [List.length_map] at this
      omega
end Go.Proofs.YtenlhfmchhljdaaDoor
