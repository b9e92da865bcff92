/-
  Bd, Be, Fu, in one.
-/
import Derived.Test.YtddmcmkhjkleoaaGreatDoorMan
import Derived.Shelf.Strings.Builder1
import Derived.Test.YtddmcmkhjkleoaaGreatDoorMal
import Derived.Test.YtddmcmkhjkleoaaGreatDoorMap
section
namespace Go.Proofs.YtddmcmkhjkleoaaGreatDoor
open Go.Shelf Go.RowKit

section
variable {P : Program} (w : World)
theorem app_str (t u ty e : TypeId) (i : TypeInfo) (ht : P.underlying t = some (.slice e)) (hu : P.underlying u = some .string) (hi : P.info? e = some i) (hz : i.zero = some (.int .u8 0))
    (hsize : i.size = 1) (hby : i.bytes = 1) (v : Value) (n : Nat) (xs : List Value) (hown : w.ownsRow 0 e 1 v n xs) (s : ByteArray)
    (h63 : n + s.size ≤ maxLen) (hbytes : n + s.size ≤ 140737488355328) :
    ∃ v' w', (Builtin.append_ #[t, u] ty #[v, .string s]).run P w = .ok v' w' ∧ w'.ownsRow 0 e 1 v' (n + s.size) (xs ++ Lib.strCells s) ∧ w.grownBy w' v.ownBlock ∧
      (v' = .slice none 0 0 ↔ v = .slice none 0 0 ∧ s.size = 0) ∧ ∀ k, v'.ownBlock = some k → v.ownBlock = some k ∨ w.heap.size ≤ k := by
  obtain ⟨v', w', h1, h2, h3, h4⟩ := Lib.run_append_own_string (P := P) w 0 t u ty e i ht hu hi hz hsize hby v n xs hown s h63 hbytes (Nat.zero_le _)
  refine ⟨v', w', h1, h2, h3, h4, ?_⟩
  rcases hown.2 with ⟨rfl, rfl⟩ | ⟨g, cap, cur, rfl, hbg, hg, hnc, hcm, hcs, htake⟩
  · obtain ⟨v2, w2, k1, k2, -, -⟩ := Lib.run_append_own_string (P := P) w w.heap.size t u ty e i ht hu hi hz hsize hby (.slice none 0 0) 0 xs ⟨hown.1, .inl ⟨rfl, rfl⟩⟩ s h63 hbytes (Nat.le_refl _)
    rw [h1] at k1
    simp only [Result.ok.injEq] at k1
    obtain ⟨rfl, rfl⟩ := k1
    exact fun k hk => .inr (k2.lt k hk).1
  · have hxl : xs.length = n := by simpa using hown.1
    have hsmall : n + s.size ≤ 9223372036854775807 := by simp only [maxLen] at h63; omega
    by_cases hroom : n + s.size ≤ cap
    · have hr := Lib.run_append_room_string (P := P) w t u ty e i ht hu hi hsize g n cap cur hg s hroom (by rw [hcs]; omega)
      rw [h1] at hr
      simp only [Result.ok.injEq] at hr
      obtain ⟨rfl, -⟩ := hr
      exact fun k hk => .inl hk
    · have holds : ∀ j u, xs[j]? = some u → w.cell? ((⟨g, 0, none⟩ : Addr).add j) = some u := hown.cells (g := g) rfl
      have hr := Lib.run_append_grow_string (P := P) w t u ty e i (.int .u8 0) ht hu hi hz ⟨g, 0, none⟩ n cap xs (by rw [hsize]; simpa using hxl) holds s (by omega) (by omega) (by rw [hby]; exact growslice_fits (by omega) (by omega))
      rw [h1] at hr
      simp only [Result.ok.injEq] at hr
      obtain ⟨rfl, -⟩ := hr
      exact fun k hk => by simp only [Value.ownBlock, Option.some.injEq] at hk; exact .inr (by omega)
theorem wpList_app_str {ops : Array Oper} {rest : List Oper} {o : Oper} {a : Act} {Q : Exit → Act → World → Prop} (hgd : o.guard = none) (sl x : Operand) (t u : TypeId)
    (ho : o.op = .call { callee := .builtin .append, args := #[sl, x], argTypes := #[t, u] })
    (e : TypeId) (i : TypeInfo) (ht : P.underlying t = some (.slice e)) (hu : P.underlying u = some .string) (hi : P.info? e = some i) (hz : i.zero = some (.int .u8 0))
    (hsize : i.size = 1) (hby : i.bytes = 1)
    (v : Value) (n : Nat) (xs : List Value) (hs : a.eval sl = v) (hown : w.ownsRow 0 e 1 v n xs) (s : ByteArray) (hx : a.eval x = .string s)
    (h63 : n + s.size ≤ maxLen) (hbytes : n + s.size ≤ 140737488355328)
    (h : ∀ v' w', w'.ownsRow 0 e 1 v' (n + s.size) (xs ++ Lib.strCells s) → w.grownBy w' v.ownBlock → (v' = .slice none 0 0 ↔ v = .slice none 0 0 ∧ s.size = 0) → (∀ k, v'.ownBlock = some k → v.ownBlock = some k ∨ w.heap.size ≤ k) → wpList P ops Q rest (a.put o.dst v') w') : wpList P ops Q (o :: rest) a w := by
  refine wpList_plain hgd fun K hK => ?_
  obtain ⟨v', w', hr, h2, h3, h4, h5⟩ := app_str (P := P) w t u o.type e i ht hu hi hz hsize hby v n xs hown s h63 hbytes
  unfold Oper.wp execOp
  simp only [ho, resolve, invoke, builtin, Sem.run_bind, Sem.run_pure, Result.andThen_ok, List.map_toArray, List.map_cons, List.map_nil, hs, hx, hr]
  exact hK _ _ (h v' w' h2 h3 h4 h5)
end
/-- Nothing has turned but the block b and the row of v. -/
structure OnlyB (w w' : World) (b : Nat) (v : Value) : Prop where
  os : w'.os = w.os
  tape : w'.tape = w.tape
  output : w'.output = w.output
  size : w.heap.size ≤ w'.heap.size
  block : ∀ k, k < w.heap.size → k ≠ b → v.ownBlock ≠ some k → w'.heap[k]? = w.heap[k]?
section
variable {P : Program} {ρ : Ren}
theorem cc_any (L : Lays.n240 P ρ) (X : Builder.X72 P ρ) (b : Nat) (p v : Value) (w : World) (hb : w.heap[b]? = some (.cells #[p, v] (ρ.t 72) (0, 0))) (hp : p = .pointer none ∨ p = .pointer (some ⟨b, 0, none⟩)) :
    Calls P (ρ.f 240) #[.pointer (some ⟨b, 0, none⟩)] w fun e w' => e = .returned (.tuple #[]) ∧ w'.heap[b]? = some (.cells #[.pointer (some ⟨b, 0, none⟩), v] (ρ.t 72) (0, 0)) ∧ w'.os = w.os ∧ w'.tape = w.tape ∧ w'.output = w.output ∧ w'.heap.size = w.heap.size ∧ ∀ k, k ≠ b → w'.heap[k]? = w.heap[k]? := by
  have c0 : w.cell? ⟨b, 0, none⟩ = some p := by rw [Lib.cell_of_heap hb]; rfl
  rcases hp with rfl | rfl
  · refine (Any.Builder_copyCheck_fresh L X b w c0 (by simp [World.shape?, hb]) (Lib.frozen_of_heap hb 0)).mono ?_
    rintro e w' ⟨rfl, rfl⟩
    refine ⟨rfl, by simp [World.setCell, Array.getElem?_modify, hb], rfl, rfl, rfl, by simp [World.setCell], fun k hk => ?_⟩
    exact Below.heap_setCell _ _ _ _ (fun e => hk (by simp [e]))
  · refine (Any.Builder_copyCheck_used L X b w c0).mono ?_
    rintro e w' ⟨rfl, rfl⟩
    exact ⟨rfl, hb, rfl, rfl, rfl, rfl, fun _ _ => rfl⟩
set_option maxHeartbeats 2000000 in
set_option maxRecDepth 100000 in
theorem ws_any (L : Lays.n166 P ρ) (X : Builder.Extra P ρ) (b : Nat) (p v : Value) (n : Nat) (bs : List Value) (s : ByteArray) (w : World) (hb : w.heap[b]? = some (.cells #[p, v] (ρ.t 72) (0, 0))) (hp : p = .pointer none ∨ p = .pointer (some ⟨b, 0, none⟩))
    (hown : w.ownsRow 0 (ρ.t 5) 1 v n bs) (hne : v.ownBlock ≠ some b) (hlen : n + s.size ≤ 140737488355328) :
    Calls P (ρ.f 166) #[.pointer (some ⟨b, 0, none⟩), .string s] w fun e w' => e = .returned (.tuple #[.int .i64 s.size, .nilIface]) ∧ OnlyB w w' b v ∧ ∃ v', w'.heap[b]? = some (.cells #[.pointer (some ⟨b, 0, none⟩), v'] (ρ.t 72) (0, 0)) ∧
      w'.ownsRow 0 (ρ.t 5) 1 v' (n + s.size) (bs ++ Lib.strCells s) ∧ v'.ownBlock ≠ some b ∧ (v' = .slice none 0 0 ↔ v = .slice none 0 0 ∧ s.size = 0) ∧ ∀ k, v'.ownBlock = some k → v.ownBlock = some k ∨ w.heap.size ≤ k := by
  obtain ⟨i0, hi, hz0, hz1, hz2⟩ := info_parts X.infoByte
  have mixed := L.mixed
  have t72 := L.t72; have a72 := L.a72; have z72 := L.z72; have v72 := L.v72; have u72 := run_underlying L.t72
  have t70 := L.t70; have a70 := L.a70; have z70 := L.z70; have v70 := L.v70; have u70 := run_underlying L.t70
  have t37 := L.t37; have a37 := L.a37; have z37 := L.z37; have v37 := L.v37; have u37 := run_underlying L.t37
  have t3 := L.t3; have a3 := L.a3; have z3 := L.z3; have v3 := L.v3; have u3 := run_underlying L.t3
  have t9 := L.t9; have a9 := L.a9; have z9 := L.z9; have v9 := L.v9; have u9 := run_underlying L.t9
  have t4 := L.t4; have a4 := L.a4; have z4 := L.z4; have v4 := L.v4; have u4 := run_underlying L.t4
  have t164 := L.t164; have a164 := L.a164; have z164 := L.z164; have v164 := L.v164; have u164 := run_underlying L.t164
  have t5 := X.t5; have a5 := X.a5; have z5 := X.z5; have v5 := X.v5; have u5 := run_underlying X.t5
  have e240 : ∀ args w, (callFunc (ρ.f 240) args).run P w = .ok (.enter (ρ.f 240) args) w := enters_of L.f240 (by kernel_rfl) rfl
  have hblt : b < w.heap.size := (Array.getElem?_eq_some_iff.1 hb).1
  go_enter L.f166, Body.n166_ntmps ρ
  go_wp2_with (go_at_fn (ρ.f 240); refine (cc_any { L with } X.toX72 b p v _ hb hp).mono ?_)
  rintro e w1 ⟨rfl, hbk, q1, q2, q3, q4, q5⟩
  have hown1 : w1.ownsRow 0 (ρ.t 5) 1 v n bs := own_same hown fun k hk => q5 k fun e => hne (e ▸ hk)
  have c0 : w1.cell? ⟨b, 0, none⟩ = some (.pointer (some ⟨b, 0, none⟩)) := by rw [Lib.cell_of_heap hbk]; rfl
  have c1 : w1.cell? ⟨b, 1, none⟩ = some v := by rw [Lib.cell_of_heap hbk]; rfl
  go_wp2_with (at_builtin; refine wpList_app_str _ rfl _ _ (ρ.t 37) (ρ.t 9) rfl (ρ.t 5) i0 L.t37 L.t9 hi hz0 hz1 hz2 _ _ _ rfl hown1 s rfl ?c3 ?c4 ?_)
  case c3 => unfold maxLen; omega
  case c4 => omega
  intro v' w2 hown' hgrow hnil hsep
  have HN : Aside (v' = .slice none 0 0 ↔ v = .slice none 0 0 ∧ s.size = 0) := (by simpa using hnil : (v' = .slice none 0 0 ↔ v = .slice none 0 0 ∧ s.size = 0))
  clear hnil
  have hlt : b < w1.heap.size := by rw [q4]; exact hblt
  have hb2 : w2.heap[b]? = some (.cells #[.pointer (some ⟨b, 0, none⟩), v] (ρ.t 72) (0, 0)) := by
    rw [hgrow.block b hlt (fun e => hne e.symm)]
    exact hbk
  have d0 : w2.cell? ⟨b, 0, none⟩ = some (.pointer (some ⟨b, 0, none⟩)) := by rw [Lib.cell_of_heap hb2]; rfl
  have d1 : w2.cell? ⟨b, 1, none⟩ = some v := by rw [Lib.cell_of_heap hb2]; rfl
  have f1 : w2.frozen? ⟨b, 1, none⟩ = false := Lib.frozen_of_heap hb2 1
  have hne' : v'.ownBlock ≠ some b := fun e => by
    rcases hsep b e with h | h
    · exact hne h
    · omega
  obtain ⟨ao, n', cap, rfl⟩ : ∃ ao n' cap, v' = .slice ao n' cap := by
    rcases hown'.2 with ⟨hv, _⟩ | ⟨g, cap, cur, hv, _⟩
    · exact ⟨_, _, _, hv⟩
    · exact ⟨_, _, _, hv⟩
  go_wp2
  go_ret2
  refine ⟨rfl, ⟨hgrow.os.trans q1, hgrow.tape.trans q2, hgrow.output.trans q3, ?_, fun k hk hkb hkv => ?_⟩, _, ?_, ?_, hne', HN.out, fun k hk => ?_⟩
  · have := hgrow.size; simp only [World.setCell, Array.size_modify]; omega
  · rw [Below.heap_setCell _ _ _ _ (fun e => hkb (by simp [e])), hgrow.block k (by omega) (fun e => hkv e.symm)]
    exact q5 k hkb
  · simp [World.setCell, Array.getElem?_modify, hb2]
  · exact own_same hown' fun k hk => Below.heap_setCell _ _ _ _ (fun e => hne' (by rw [hk, e]))
  · rcases hsep k hk with h | h
    · exact .inl h
    · exact .inr (by omega)
end
end Go.Proofs.YtddmcmkhjkleoaaGreatDoor
end

section
namespace Go.Proofs.YtddmcmkhjkleoaaGreatDoor
open Go.Shelf Go.RowKit

section
variable {P : Program} {ρ : Ren}
set_option maxHeartbeats 2000000 in
set_option maxRecDepth 100000 in
theorem bs_any (L : Lays.n169 P ρ) (X : Builder.Extra P ρ) (b : Nat) (p v : Value) (l : List UInt8) (w : World) (hbk : w.heap[b]? = some (.cells #[p, v] (ρ.t 72) (0, 0)))
    (hown : w.ownsRow 0 (ρ.t 5) 1 v l.length (bytV l)) (h0 : l ≠ []) :
    Calls P (ρ.f 169) #[.pointer (some ⟨b, 0, none⟩)] w fun e w' => e = .returned (.string ⟨l.toArray⟩) ∧ OnlyB w w' b v := by
  have hl0 : l.length ≠ 0 := by simpa using h0
  obtain ⟨g, cap, cur, rfl, hg, hnc, hcm, hcs, htake⟩ : ∃ g cap cur, v = .slice (some ⟨g, 0, none⟩) l.length cap ∧ w.heap[g]? = some (.cells cur (ρ.t 5) (0, 0)) ∧ l.length ≤ cap ∧ cap ≤ maxLen ∧ cur.size = cap * 1 ∧ cur.toList.take (l.length * 1) = bytV l := by
    rcases hown.2 with ⟨_, hz⟩ | ⟨g, cap, cur, hv, -, r⟩
    · exact absurd hz hl0
    · exact ⟨g, cap, cur, hv, r⟩
  have c1 : w.drew.cell? ⟨b, 1, none⟩ = some (.slice (some ⟨g, 0, none⟩) l.length cap) := by
    have : w.drew.heap[b]? = some (.cells #[p, .slice (some ⟨g, 0, none⟩) l.length cap] (ρ.t 72) (0, 0)) := hbk
    rw [Lib.cell_of_heap this]; rfl
  have hSD : (Builtin.unsafeSliceData_ #[(ρ.t 37)] (ρ.t 127) #[.slice (some ⟨g, 0, none⟩) l.length cap]).run P w.drew = .ok (.pointer (some ⟨g, 0, none⟩)) w.drew :=
    Lib.run_unsafeSliceData_row _ _ _ _ _ _ (by omega)
  have hUS : (Builtin.unsafeString_ #[(ρ.t 127), (ρ.t 3)] (ρ.t 9) #[.pointer (some ⟨g, 0, none⟩), .int .i64 l.length]).run P w.drew = .ok (.string ⟨l.toArray⟩) (w.drew.freeze ⟨g, 0, none⟩ l.length) := by
    refine Lib.run_unsafeString_row w.drew (ρ.t 127) (ρ.t 3) (ρ.t 9) (ρ.t 5) L.t127 X.cellsByte g cur.size (by have hg' : w.drew.heap[g]? = some (.cells cur (ρ.t 5) (0, 0)) := hg; simp [World.shape?, hg']) l h0 (by omega) (by unfold maxLen at hcm; omega) ?_
    intro j x hx
    have := hown.cells (g := g) rfl j (.int .u8 x.toNat) (by simp [bytV, hx])
    exact this
  have mixed := L.mixed
  have t72 := L.t72; have a72 := L.a72; have z72 := L.z72; have v72 := L.v72; have u72 := run_underlying L.t72
  have t70 := L.t70; have a70 := L.a70; have z70 := L.z70; have v70 := L.v70; have u70 := run_underlying L.t70
  have t37 := L.t37; have a37 := L.a37; have z37 := L.z37; have v37 := L.v37; have u37 := run_underlying L.t37
  have t127 := L.t127; have a127 := L.a127; have z127 := L.z127; have v127 := L.v127; have u127 := run_underlying L.t127
  have t3 := L.t3; have a3 := L.a3; have z3 := L.z3; have v3 := L.v3; have u3 := run_underlying L.t3
  have t9 := L.t9; have a9 := L.a9; have z9 := L.z9; have v9 := L.v9; have u9 := run_underlying L.t9
  have t5 := X.t5; have a5 := X.a5; have z5 := X.z5; have v5 := X.v5; have u5 := run_underlying X.t5
  have hF : OnlyB w (w.drew.freeze ⟨g, 0, none⟩ l.length) b (.slice (some ⟨g, 0, none⟩) l.length cap) := by
    have hB := Lib.below_freeze (Below.drew (Below.refl g w)) (p := ⟨g, 0, none⟩) (Nat.le_refl g) l.length
    refine ⟨hB.os, hB.tape, hB.output, hB.size, fun k hk _ hkv => ?_⟩
    simp only [Value.ownBlock, ne_eq, Option.some.injEq] at hkv
    unfold World.freeze
    rw [if_neg hl0]
    show (w.heap.modify g _)[k]? = _
    rw [Array.getElem?_modify, if_neg hkv]
  go_enter L.f169, Body.n169_ntmps ρ
  go_wp2
  go_region_o
  all_goals (go_wp2; go_ret; exact ⟨rfl, hF⟩)
set_option maxHeartbeats 2000000 in
set_option maxRecDepth 100000 in
theorem bs_nil (L : Lays.n169 P ρ) (X : Builder.Extra P ρ) (b : Nat) (p : Value) (w : World) (hbk : w.heap[b]? = some (.cells #[p, .slice none 0 0] (ρ.t 72) (0, 0))) :
    Calls P (ρ.f 169) #[.pointer (some ⟨b, 0, none⟩)] w fun e w' => e = .returned (.string ⟨#[]⟩) ∧ OnlyB w w' b (.slice none 0 0) := by
  refine (Any.Builder_String_nil L X w.heap.size b p w hbk).mono ?_
  rintro e w' ⟨rfl, h⟩
  exact ⟨rfl, h.os, h.tape, h.output, h.size, fun k hk _ _ => h.block k hk⟩
end
theorem bx : Builder.Extra Tryz.prog Tryz.join_ren where
  sizeBuilder := by kernel_rfl
  liesBuilder := by kernel_rfl
  t5 := Tryz.underlying5
  a5 := Tryz.isAgg5
  z5 := Tryz.sizeOf5
  v5 := Tryz.zeroValue5
  infoByte := by kernel_rfl
  cellsByte := by kernel_rfl
  sizeByte := by kernel_rfl
  neB5 := by decide
theorem bx2 : Builder.Extra Tryz.prog Tryz.bstr_ren where
  sizeBuilder := by kernel_rfl
  liesBuilder := by kernel_rfl
  t5 := Tryz.underlying5
  a5 := Tryz.isAgg5
  z5 := Tryz.sizeOf5
  v5 := Tryz.zeroValue5
  infoByte := by kernel_rfl
  cellsByte := by kernel_rfl
  sizeByte := by kernel_rfl
  neB5 := by decide

abbrev bldO (l : List UInt8) : GObj := .bld 5 47 l
theorem strCells_b (s : List UInt8) : Lib.strCells ⟨s.toArray⟩ = bytV s := rfl
theorem bytV_app (l s : List UInt8) : bytV (l ++ s) = bytV l ++ bytV s := List.map_append
/-- A builder that has turned. -/
def setBd (g : Gh) (c : Nat) (v : Value) : Gh := ⟨g.S, g.blk, fun i => if i = c then v else g.row i, fun i => if i = c then g.len c + 1 else g.len i⟩
theorem setBd_le (g : Gh) (c : Nat) (v : Value) : GLe (fun _ => True) g (setBd g c v) := by
  refine ⟨SLe.refl _, fun _ _ _ => rfl, fun i _ => ?_, fun i _ h => ?_⟩
  · by_cases e : i = c
    · subst e; simp [setBd]
    · simp [setBd, e]
  · by_cases e : i = c
    · subst e; simp [setBd] at h
    · simp [setBd, e]
theorem objL_one {i id : Nat} {ob x : GObj} (h : objL [(i, ob)] id = some x) : id = i ∧ x = ob := by
  have := objL_mem h
  simp only [List.mem_singleton, Prod.mk.injEq] at this
  exact this
theorem OnlyB.imm {Γ : Cx} {g : Gh} {w w' : World} {c : Nat} {e t : TypeId} {l : List UInt8} {objs : Objs} (hw : WI Γ g objs w) (hc : objs c = some (.bld e t l)) (hO : OnlyB w w' (g.blk c) (g.row c)) :
    (∀ b o x, g.S b o = some x → w'.cell? ⟨b, o, none⟩ = some x) ∧ ∀ i ob, i ≠ c → objs i = some ob → ∀ b, ob.blk g i b → w'.heap[b]? = w.heap[b]? := by
  obtain ⟨p, v, a0, a1, a2, a3, a4, a5, a6, a9, a7, a8⟩ := hw.obj c _ hc
  constructor
  · intro b o x hx
    have h1 := hw.imm b o x hx
    have hlt := World.block_lt_of_cell? w ⟨b, o, none⟩ h1
    rw [World.cell?_of_block (hO.block b hlt (fun e => by rw [e, a7] at hx; cases hx) (fun e => by rw [a4] at e; rw [(a8 b e).2] at hx; cases hx))]
    exact h1
  · intro i ob hi ho b hb
    refine hO.block b (hw.blk_lt ho hb) (fun e => hi ?_) (fun e => hi ?_)
    · exact hw.apart i c _ _ b ho hc hb (.inl e.symm)
    · exact hw.apart i c _ _ b ho hc hb (.inr e)
theorem ws_fn (l s : List UInt8) (hl : l.length + s.length ≤ 140737488355328) : FnO Tryz.prog 13 [.ref 1000 0, strT s] [(1000, bldO l)] (.tup [intT s.length, .d (.v .nilIface)]) [(1000, bldO (l ++ s))] := by
  intro w g vs ht hx hw hr
  have hc : objL [(1000, bldO l)] 1000 = some (bldO l) := rfl
  obtain ⟨p, v, a0, a1, a2, a3, a4, a5, a6, a9, a7, a8⟩ := hw.obj 1000 _ hc
  cases hr with | cons h1 hr => cases hr with | cons h2 hr =>
  cases hr
  cases inv_v h2
  cases h1
  have hsz : (⟨s.toArray⟩ : ByteArray).size = s.length := str_size s
  refine (ws_any Tryz.wrS bx (g.blk 1000) p v l.length (bytV l) ⟨s.toArray⟩ w a2 a3 a5 a6 (by rw [hsz]; exact hl)).mono ?_
  rintro e w' ⟨rfl, hO, v', b1, b2, b3, b4, b5⟩
  rw [hsz] at b2 b4
  have hO2 : OnlyB w w' (g.blk 1000) (g.row 1000) := by rw [a4]; exact hO
  obtain ⟨k1, -⟩ := OnlyB.imm hw hc hO2
  have hle := setBd_le g 1000 v'
  refine ⟨_, setBd g 1000 v', rfl, .tup (.cons (by rw [hsz]; exact .d (.v rfl)) (.cons (.d (.v rfl)) .nil)), ⟨k1, ?_, ?_, ⟨hO.os, hO.tape, hO.output, hO.size, fun k hk hkx => ?_⟩, fun _ _ _ _ => rfl, hle.weak fun _ _ => trivial⟩⟩
  · intro id ob ho
    obtain ⟨rfl, rfl⟩ := objL_one ho
    refine ⟨_, v', by simp [setBd], a1, b1, .inr rfl, by simp [setBd], by rw [bytV_app, List.length_append]; exact b2, b3, fun e => ?_, a7, fun b hb => ?_⟩
    · obtain ⟨e1, e2⟩ := List.append_eq_nil_iff.1 e
      exact b4.2 ⟨a9 e1, by rw [e2]; rfl⟩
    · rcases b5 b hb with h | h
      · exact a8 b h
      · refine ⟨.inl h, fun o => ?_⟩
        show g.S b o = none
        cases h3 : g.S b o with
        | none => rfl
        | some x => exact absurd (World.block_lt_of_cell? w ⟨_, o, none⟩ (hw.imm _ _ _ h3)) (by show ¬ b < _; omega)
  · intro i j oi oj b hi hj _ _
    exact (objL_one hi).1.trans (objL_one hj).1.symm
  · refine hO.block k hk (fun e => hkx ⟨1000, _, hc, .inl e.symm⟩) (fun e => hkx ⟨1000, _, hc, .inr (by rw [a4]; exact e)⟩)
theorem bs_fn (l : List UInt8) : FnO Tryz.prog 18 [.ref 1000 0] [(1000, bldO l)] (strT l) [(1000, .gone)] := by
  intro w g vs ht hx hw hr
  have hc : objL [(1000, bldO l)] 1000 = some (bldO l) := rfl
  obtain ⟨p, v, a0, a1, a2, a3, a4, a5, a6, a9, a7, a8⟩ := hw.obj 1000 _ hc
  cases hr with | cons h1 hr =>
  cases hr
  cases h1
  have key : Calls Tryz.prog 18 #[.pointer (some ⟨g.blk 1000, 0, none⟩)] w fun e w' => e = .returned (.string ⟨l.toArray⟩) ∧ OnlyB w w' (g.blk 1000) v := by
    by_cases h0 : l = []
    · obtain rfl := a9 h0
      subst h0
      exact bs_nil Tryz.bstr bx2 _ p w a2
    · exact bs_any Tryz.bstr bx2 _ p v l w a2 a5 h0
  refine key.mono ?_
  rintro e w' ⟨rfl, hO⟩
  have hO2 : OnlyB w w' (g.blk 1000) (g.row 1000) := by rw [a4]; exact hO
  obtain ⟨k1, -⟩ := OnlyB.imm hw hc hO2
  refine ⟨_, g, rfl, .d (.v rfl), ⟨k1, ?_, ?_, ⟨hO.os, hO.tape, hO.output, hO.size, fun k hk hkx => ?_⟩, fun _ _ _ _ => rfl, GLe.refl _ _⟩⟩
  · intro id ob ho
    obtain ⟨rfl, rfl⟩ := objL_one ho
    trivial
  · intro i j oi oj b hi hj _ _
    exact (objL_one hi).1.trans (objL_one hj).1.symm
  · refine hO.block k hk (fun e => hkx ⟨1000, _, hc, .inl e.symm⟩) (fun e => hkx ⟨1000, _, hc, .inr (by rw [a4]; exact e)⟩)
/-- A builder, new. -/
theorem t_allocB {P : Program} {o : Oper} {σ : Nat → T} {e eb c : Nat} (ho : o.op = .alloc e) (hz : zeroOf? P e = some [.pointer none, .slice none 0 0]) : Tri P o σ [(c, .vac)] (.ref c 0) [(c, .bld eb e [])] := by
  intro Γ g objs a w Q hr hp hw
  refine (t_alloc ho hz) Γ g objs a w _ hr hp hw |> fun h => Oper.wp_mono (fun a' w' h1 => ?_) h
  obtain ⟨g', x, rfl, hle, hx, hw'⟩ := h1
  have hx0 := hx
  cases hx0 with
  | ref hlen =>
  have hc : ovr objs [(c, .cells e ([.pointer none, .slice none 0 0].map fun x => .d (.v x)))] c = some (.cells e ([.pointer none, .slice none 0 0].map fun x => .d (.v x))) := by simp [ovr]
  obtain ⟨xs, b0, b1, b2, b3, b4, b5⟩ := hw'.obj c _ hc
  cases b3 with | cons q1 b3 => cases b3 with | cons q2 b3 =>
  cases b3
  cases inv_v q1
  cases inv_v q2
  have hnb : ∀ b, GObj.blk (setBd g' c (.slice none 0 0)) c (.bld eb e []) b → g'.blk c = b := fun b hb => by
    rcases hb with hb | hb
    · exact hb
    · simp [setBd, Value.ownBlock] at hb
  have hsame : ∀ i, i ≠ c → (setBd g' c (.slice none 0 0)).blk i = g'.blk i ∧ (setBd g' c (.slice none 0 0)).row i = g'.row i ∧ (setBd g' c (.slice none 0 0)).len i = g'.len i := fun i hi => by simp [setBd, hi]
  refine ⟨setBd g' c (.slice none 0 0), _, rfl, hle.trans (setBd_le g' c _), .ref (by simp [setBd]), ⟨hw'.imm, fun id ob hi => ?_, fun i j oi oj b hi hj hb1 hb2 => ?_, hw'.fr, hw'.old, hw'.ext.trans ((setBd_le g' c _).weak fun _ _ => trivial)⟩⟩
  · by_cases e1 : id = c
    · subst e1
      have : ob = .bld eb e [] := by simpa [ovr] using hi.symm
      subst this
      exact ⟨_, _, by simp [setBd], b1, b2, .inl rfl, by simp [setBd], World.ownsRow_nil _ _ _ _, by simp [Value.ownBlock], fun _ => rfl, b5, fun b hb => by simp [Value.ownBlock] at hb⟩
    · have h2 : ovr objs [(c, .cells e ([.pointer none, .slice none 0 0].map fun x => .d (.v x)))] id = some ob := by
        simp only [ovr, List.lookup_cons, List.lookup_nil] at hi ⊢
        rw [show (id == c) = false from by simpa using e1] at hi ⊢
        exact hi
      obtain ⟨s1, s2, s3⟩ := hsame id e1
      exact (hw'.obj id ob h2).same (setBd_le g' c _) s1 s2 s3 (fun _ _ => trivial) fun b _ => ⟨rfl, fun _ => rfl⟩
  · have tr : ∀ i oi, ovr objs [(c, .bld eb e [])] i = some oi → oi.blk (setBd g' c (.slice none 0 0)) i b → ∃ oi', ovr objs [(c, .cells e ([.pointer none, .slice none 0 0].map fun x => .d (.v x)))] i = some oi' ∧ oi'.blk g' i b := fun i oi hi hb => by
      by_cases e1 : i = c
      · subst e1
        have : oi = .bld eb e [] := by simpa [ovr] using hi.symm
        subst this
        exact ⟨_, hc, hnb b hb⟩
      · refine ⟨oi, ?_, ?_⟩
        · simp only [ovr, List.lookup_cons, List.lookup_nil] at hi ⊢
          rw [show (i == c) = false from by simpa using e1] at hi ⊢
          exact hi
        · obtain ⟨s1, s2, s3⟩ := hsame i e1
          rw [blk_same s1 s2] at hb; exact hb
    obtain ⟨oi', h1, h2⟩ := tr i oi hi hb1
    obtain ⟨oj', h3, h4⟩ := tr j oj hj hb2
    exact hw'.apart i j _ _ b h1 h3 h2 h4
end Go.Proofs.YtddmcmkhjkleoaaGreatDoor
end

section
namespace Go.Proofs.YtddmcmkhjkleoaaGreatDoor
open Go.RowKit

abbrev in64 (n : Int) : Prop := -9223372036854775808 ≤ n ∧ n ≤ 9223372036854775807
structure InOk (i : InR) : Prop where
  op : 0 ≤ i.op ∧ i.op < 39
  a : in64 i.a
  b : in64 i.b
  c : in64 i.c
  line : in64 i.line
structure FnOk (f : FnR) : Prop where
  params : in64 f.params
  regs : in64 f.regs
  caught : ∀ n ∈ f.caught, in64 n
  len : (numsM f.caught).length ≤ 1000000000000
  code : f.code.length ≤ 600
  ins : ∀ i ∈ f.code, InOk i
theorem named_le (w : List UInt8) : namedM w ≤ 3 := by unfold namedM; split <;> (try split) <;> (try split) <;> omega
theorem lw_at {k : Nat} (h : k < 39) : ∃ w, lwordsL[k]? = some w ∧ w.length ≤ 6 ∧ lwordsL.getD k [] = w := by
  have key : ∀ k : Fin 39, (lwordsL.getD k.1 []).length ≤ 6 := by decide +kernel
  have hk : k < lwordsL.length := by rw [lwords_len]; exact h
  refine ⟨lwordsL[k], List.getElem?_eq_getElem hk, ?_, ?_⟩
  · have := key ⟨k, h⟩
    rwa [List.getD_eq_getElem?_getD, List.getElem?_eq_getElem hk] at this
  · rw [List.getD_eq_getElem?_getD, List.getElem?_eq_getElem hk]; rfl
theorem nums_take (l : List Int) (i : Nat) : (numsM (l.take i)).length ≤ (numsM l).length := by
  conv => rhs; rw [← List.take_append_drop i l]
  simp only [numsM, List.flatMap_append, List.length_append]; omega
theorem nums_len : ∀ (l : List Int), (∀ n ∈ l, in64 n) → (numsM l).length ≤ 22 * l.length
  | [], _ => by simp [numsM]
  | n :: l, h => by
    have h1 := nums_one n (h n (by simp)).1 (h n (by simp)).2
    have h2 := nums_len l fun m hm => h m (by simp [hm])
    have : numsM (n :: l) = numsM [n] ++ numsM l := by simp [numsM]
    rw [this, List.length_append, List.length_cons]; omega
theorem numbers_ok (l : List Int) (hl : ∀ n ∈ l, in64 n) (hw : (numsM l).length ≤ 1000000000000) : FnD Tryz.prog 32 [.d (isD l)] (strT (numsM l)) :=
  numbers_fn l hl fun i _ => by have := nums_take l i; omega
theorem pre_len (A : List UInt8) (l : List InR) (h : ∀ i ∈ l, (orderT i).length ≤ 200) : (A ++ l.flatMap orderT).length ≤ A.length + 200 * l.length := by
  induction l with
  | nil => simp
  | cons i l ih =>
    have := ih fun i hi => h i (by simp [hi])
    have := h i (by simp)
    simp only [List.flatMap_cons, List.length_append, List.length_cons] at *; omega
theorem order_len {i : InR} (h : InOk i) : (orderT i).length ≤ 200 := by
  obtain ⟨w, h1, h2, h3⟩ := lw_at (k := i.op.toNat) (by have := h.op; omega)
  have h4 := nums_len ([i.a, i.b, i.c].take (namedM w)) fun n hn => by
    have := List.mem_of_mem_take hn
    simp only [List.mem_cons, List.not_mem_nil, or_false] at this
    rcases this with rfl | rfl | rfl
    · exact h.a
    · exact h.b
    · exact h.c
  have h5 : ([i.a, i.b, i.c].take (namedM w)).length ≤ 3 := by rw [List.length_take]; simp only [List.length_cons, List.length_nil]; omega
  have h6 := Lib.itoa_length_le i.line h.line.1 h.line.2
  have h7 : (strU " @").length = 2 := by decide +kernel
  unfold orderT
  rw [h3]
  simp only [List.length_cons, List.length_append, List.length_nil, h7]
  omega
theorem ws_eq (l s t : List UInt8) (h : l ++ s = t) (hl : l.length + s.length ≤ 140737488355328) : FnO Tryz.prog 13 [.ref 1000 0, strT s] [(1000, bldO l)] (.tup [intT s.length, .d (.v .nilIface)]) [(1000, bldO t)] := by subst h; exact ws_fn l s hl
set_option maxRecDepth 100000 in
set_option maxHeartbeats 1000000 in
theorem lfunction_fn (f : FnR) (h : FnOk f) : FnD Tryz.prog 17 [.d (fnD f), .d (txD lwordsL)] (strT (functionT f)) := by
  obtain ⟨p, r, gen, ca, co⟩ := f
  obtain ⟨h1, h2, h3, h4, h5, h6⟩ := h
  dsimp only at h1 h2 h3 h4 h5 h6
  have hN1 := numbers_ok [p, r] (by intro n hn; simp only [List.mem_cons, List.not_mem_nil, or_false] at hn; rcases hn with rfl | rfl; exact h1; exact h2) (by have := nums_len [p, r] (by intro n hn; simp only [List.mem_cons, List.not_mem_nil, or_false] at hn; rcases hn with rfl | rfl; exact h1; exact h2); simp only [List.length_cons, List.length_nil] at this; omega)
  have hL1 : (numsM [p, r]).length ≤ 44 := by have := nums_len [p, r] (by intro n hn; simp only [List.mem_cons, List.not_mem_nil, or_false] at hn; rcases hn with rfl | rfl; exact h1; exact h2); simpa using this
  have hN2 := numbers_ok ca h3 h4
  have hLN : (lwordsL.map strD).length = 39 := rfl
  obtain ⟨A, hA0⟩ : ∃ A, A = headT ⟨p, r, gen, ca, co⟩ ++ caughtT ⟨p, r, gen, ca, co⟩ := ⟨_, rfl⟩
  have hres : functionT ⟨p, r, gen, ca, co⟩ = A ++ co.flatMap orderT := by rw [hA0]; rfl
  have hcaL : (ca.map iD).length = ca.length := List.length_map _
  have hAl : A.length ≤ 2000000000000 := by
    rw [hA0]
    have e1 : (strU "fn").length = 2 := by decide +kernel
    have e2 : (strU "gen").length = 3 := by decide +kernel
    have e3 : (strU "caught").length = 6 := by decide +kernel
    unfold headT caughtT
    dsimp only
    rw [List.length_append]
    split <;> split <;> simp only [List.length_append, List.length_cons, List.length_nil, e1, e2, e3] <;> omega
  rw [hres]
  unfold headT caughtT at hA0
  dsimp only at hA0
  rw [show strU "fn" = [102, 110] from by decide +kernel, show strU "gen" = [103, 101, 110] from by decide +kernel, show strU "caught" = [99, 97, 117, 103, 104, 116] from by decide +kernel] at hA0
  generalize numsM [p, r] = t1 at *
  generalize numsM ca = t2 at *
  cases gen
  all_goals by_cases hc : ca = []
  · have hcl : ca.length = 0 := by rw [hc]; rfl
    rw [if_neg (by decide), if_pos hc] at hA0
    have hW := ws_eq [] ([102, 110] ++ (t1 ++ [10])) A (by rw [hA0]; simp) (by simp; omega)
    have l1 : (t1 : List UInt8).length + ([10] : List UInt8).length ≤ 9223372036854775807 := by simp only [List.length_cons, List.length_nil]; omega
    have l2 : ([102, 110] : List UInt8).length + (t1 ++ [10] : List UInt8).length ≤ 9223372036854775807 := by simp only [List.length_append, List.length_cons, List.length_nil]; omega
    show FnD Tryz.prog 17 [.d (.agg [iD p, iD r, bD false, .sl 1 (ca.map iD), .sl 5 (co.map inD)]), .d (.sl 1 (lwordsL.map strD))] (strT (A ++ co.flatMap orderT))
    refine FnD.of1 (n := 69) [1002, 5006] fax_ok Tryz.func17 rfl rfl rfl (by rfl) (by kernel_rfl) (by intro _; rfl) fun Γ hA hbA => ?_
    (repeat ((conv => whnf); (first | refine exR ?_ | refine gd (enters_of Tryz.func32 rfl rfl) hN1 ?_ | refine tF ?_ | refine lQ ?_)))
    refine gen_one (t_allocB (c := 6) (eb := 5) rfl (by kernel_rfl)) rfl ?_
    (repeat ((conv => whnf); refine gO [(1000, 6)] (enters_of Tryz.func13 rfl rfl) hW ?_))
    refine ev_loop [] fax_ok hA (by kernel_rfl) (fun i : Nat => i ≤ co.length) (fun i => [(1, .d (txD lwordsL)), (6, .ref 6 0), (35, .d (codeD co)), (36, intT (co.map inD).length), (37, intT i)]) (fun i => [(6, bldO (A ++ (co.take i).flatMap orderT))]) (fun i => co.length - i) 0 (Nat.zero_le _) fiE (by simp only [List.take_zero, List.flatMap_nil, List.append_nil]; exact fiO) ?_
    rintro i hi hb -
    have hmc : (co.map inD).length = co.length := List.length_map _
    by_cases h : i < co.length
    · have hx : (co.map inD)[i]? = some (inD co[i]) := by rw [List.getElem?_map, List.getElem?_eq_getElem h, Option.map_some]
      have hn := h6 co[i] (List.getElem_mem h)
      have ht : co.take (i + 1) = co.take i ++ [co[i]] := by rw [List.take_add_one, List.getElem?_eq_getElem h]; rfl
      have hs : A ++ (co.take (i + 1)).flatMap orderT = (A ++ (co.take i).flatMap orderT) ++ orderT co[i] := by rw [ht, List.flatMap_append]; simp
      have hpl := pre_len A (co.take i) fun x hx => order_len (h6 x (List.mem_of_mem_take hx))
      have htl : (co.take i).length ≤ 600 := by rw [List.length_take]; omega
      have hol := order_len hn
      have hot : orderT co[i] = 32 :: (lwordsL.getD co[i].op.toNat [] ++ numsM ([co[i].a, co[i].b, co[i].c].take (namedM (lwordsL.getD co[i].op.toNat []))) ++ strU " @" ++ Lib.itoa co[i].line ++ [10]) := rfl
      rw [show strU " @" = [32, 64] from by decide +kernel] at hot
      generalize A ++ (co.take i).flatMap orderT = W at *
      generalize hWe : A ++ (co.take (i + 1)).flatMap orderT = W2 at *
      generalize orderT co[i] = o1 at *
      generalize co[i] = ii at *
      obtain ⟨op, a, b, c, li⟩ := ii
      replace hx : (co.map inD)[i]? = some (.agg [iD op, iD a, iD b, iD c, iD li]) := hx
      obtain ⟨k1, k2, k3, k4, k5⟩ := hn
      dsimp only at k1 k2 k3 k4 k5 hot
      obtain ⟨w, q1, q2, q3⟩ := lw_at (k := op.toNat) (by omega)
      rw [q3] at hot
      have hop : op = (op.toNat : Int) := by omega
      have hxw : (lwordsL.map strD)[op.toNat]? = some (strD w) := by rw [List.getElem?_map, q1, Option.map_some]
      have hnm := named_fn w (by omega)
      have hnl := named_le w
      have hN3 := numbers_ok ([a, b, c].take (namedM w)) (fun n hn => by
        have := List.mem_of_mem_take hn
        simp only [List.mem_cons, List.not_mem_nil, or_false] at this
        rcases this with rfl | rfl | rfl
        · exact k2
        · exact k3
        · exact k4) (by rw [hot] at hol; simp only [List.length_cons, List.length_append] at hol; omega)
      unfold isD at hN3
      rw [List.map_take] at hN3
      have hI := itoa_fn li k5.1 k5.2
      generalize numsM ([a, b, c].take (namedM w)) = t3 at *
      generalize Lib.itoa li = t4 at *
      generalize namedM w = nm at *
      have hol2 : w.length + t3.length + t4.length ≤ 200 := by rw [hot] at hol; simp only [List.length_cons, List.length_append] at hol; omega
      have hW2 := ws_eq W ((((([32] ++ w) ++ t3) ++ [32, 64]) ++ t4) ++ [10]) W2 (by rw [hs, hot]; simp) (by simp only [List.length_cons, List.length_append, List.length_nil]; omega)
      have m1 : ([32] : List UInt8).length + (w : List UInt8).length ≤ 9223372036854775807 := by simp only [List.length_cons, List.length_nil]; omega
      have m2 : ([32] ++ w : List UInt8).length + (t3 : List UInt8).length ≤ 9223372036854775807 := by simp only [List.length_append, List.length_cons, List.length_nil]; omega
      have m3 : ([32] ++ w ++ t3 : List UInt8).length + ([32, 64] : List UInt8).length ≤ 9223372036854775807 := by simp only [List.length_append, List.length_cons, List.length_nil]; omega
      have m4 : ([32] ++ w ++ t3 ++ [32, 64] : List UInt8).length + (t4 : List UInt8).length ≤ 9223372036854775807 := by simp only [List.length_append, List.length_cons, List.length_nil]; omega
      have m5 : ([32] ++ w ++ t3 ++ [32, 64] ++ t4 : List UInt8).length + ([10] : List UInt8).length ≤ 9223372036854775807 := by simp only [List.length_append, List.length_cons, List.length_nil]; omega
      generalize op.toNat = k at *
      subst hop
      (repeat ((conv => whnf); (first | with_reducible refine exE _ (w_inc (by omega)) ?_ | refine exR ?_ | refine gd (enters_of Tryz.func33 rfl rfl) hnm ?_ | refine gd (enters_of Tryz.func32 rfl rfl) hN3 ?_ | refine gd (enters_of Tryz.func34 rfl rfl) hI ?_ | refine gO [(1000, 6)] (enters_of Tryz.func13 rfl rfl) hW2 ?_ | refine tT ?_ | refine oB ?_ | refine And.intro rfl ?_ | refine lQ ?_ | refine exI _ rfl (by assumption) ?_ | refine nA _ rfl ?_)))
      refine ⟨i + 1, by omega, by omega, fiE, (by rw [hWe]; exact fiO)⟩
    · have hi2 : co.take i = co := List.take_of_length_le (by omega)
      rw [hi2]
      have hS := bs_fn (A ++ co.flatMap orderT)
      (repeat ((conv => whnf); (first | refine exR ?_ | refine gO [(1000, 6)] (enters_of Tryz.func18 rfl rfl) hS ?_ | refine tF ?_)))
      exact ⟨eN, rS, fiO⟩
  · have hcl : 0 < ca.length := List.length_pos_iff.2 hc
    rw [if_neg (by decide), if_neg hc] at hA0
    have hW := ws_eq [] (([102, 110] ++ (t1 ++ [10])) ++ (([99, 97, 117, 103, 104, 116] ++ t2) ++ [10])) A (by rw [hA0]; simp) (by simp; omega)
    have l1 : (t1 : List UInt8).length + ([10] : List UInt8).length ≤ 9223372036854775807 := by simp only [List.length_cons, List.length_nil]; omega
    have l2 : ([102, 110] : List UInt8).length + (t1 ++ [10] : List UInt8).length ≤ 9223372036854775807 := by simp only [List.length_append, List.length_cons, List.length_nil]; omega
    have l3 : ([99, 97, 117, 103, 104, 116] : List UInt8).length + (t2 : List UInt8).length ≤ 9223372036854775807 := by simp only [List.length_cons, List.length_nil]; omega
    have l4 : ([99, 97, 117, 103, 104, 116] ++ t2 : List UInt8).length + ([10] : List UInt8).length ≤ 9223372036854775807 := by simp only [List.length_append, List.length_cons, List.length_nil]; omega
    have l5 : ([102, 110] ++ (t1 ++ [10]) : List UInt8).length + ([99, 97, 117, 103, 104, 116] ++ t2 ++ [10] : List UInt8).length ≤ 9223372036854775807 := by simp only [List.length_append, List.length_cons, List.length_nil]; omega
    show FnD Tryz.prog 17 [.d (.agg [iD p, iD r, bD false, .sl 1 (ca.map iD), .sl 5 (co.map inD)]), .d (.sl 1 (lwordsL.map strD))] (strT (A ++ co.flatMap orderT))
    refine FnD.of1 (n := 69) [1002, 5006] fax_ok Tryz.func17 rfl rfl rfl (by rfl) (by kernel_rfl) (by intro _; rfl) fun Γ hA hbA => ?_
    (repeat ((conv => whnf); (first | refine exR ?_ | refine gd (enters_of Tryz.func32 rfl rfl) hN1 ?_ | refine gd (enters_of Tryz.func32 rfl rfl) hN2 ?_ | refine tT ?_ | refine tF ?_ | refine lQ ?_)))
    refine gen_one (t_allocB (c := 6) (eb := 5) rfl (by kernel_rfl)) rfl ?_
    (repeat ((conv => whnf); refine gO [(1000, 6)] (enters_of Tryz.func13 rfl rfl) hW ?_))
    refine ev_loop [] fax_ok hA (by kernel_rfl) (fun i : Nat => i ≤ co.length) (fun i => [(1, .d (txD lwordsL)), (6, .ref 6 0), (35, .d (codeD co)), (36, intT (co.map inD).length), (37, intT i)]) (fun i => [(6, bldO (A ++ (co.take i).flatMap orderT))]) (fun i => co.length - i) 0 (Nat.zero_le _) fiE (by simp only [List.take_zero, List.flatMap_nil, List.append_nil]; exact fiO) ?_
    rintro i hi hb -
    have hmc : (co.map inD).length = co.length := List.length_map _
    by_cases h : i < co.length
    · have hx : (co.map inD)[i]? = some (inD co[i]) := by rw [List.getElem?_map, List.getElem?_eq_getElem h, Option.map_some]
      have hn := h6 co[i] (List.getElem_mem h)
      have ht : co.take (i + 1) = co.take i ++ [co[i]] := by rw [List.take_add_one, List.getElem?_eq_getElem h]; rfl
      have hs : A ++ (co.take (i + 1)).flatMap orderT = (A ++ (co.take i).flatMap orderT) ++ orderT co[i] := by rw [ht, List.flatMap_append]; simp
      have hpl := pre_len A (co.take i) fun x hx => order_len (h6 x (List.mem_of_mem_take hx))
      have htl : (co.take i).length ≤ 600 := by rw [List.length_take]; omega
      have hol := order_len hn
      have hot : orderT co[i] = 32 :: (lwordsL.getD co[i].op.toNat [] ++ numsM ([co[i].a, co[i].b, co[i].c].take (namedM (lwordsL.getD co[i].op.toNat []))) ++ strU " @" ++ Lib.itoa co[i].line ++ [10]) := rfl
      rw [show strU " @" = [32, 64] from by decide +kernel] at hot
      generalize A ++ (co.take i).flatMap orderT = W at *
      generalize hWe : A ++ (co.take (i + 1)).flatMap orderT = W2 at *
      generalize orderT co[i] = o1 at *
      generalize co[i] = ii at *
      obtain ⟨op, a, b, c, li⟩ := ii
      replace hx : (co.map inD)[i]? = some (.agg [iD op, iD a, iD b, iD c, iD li]) := hx
      obtain ⟨k1, k2, k3, k4, k5⟩ := hn
      dsimp only at k1 k2 k3 k4 k5 hot
      obtain ⟨w, q1, q2, q3⟩ := lw_at (k := op.toNat) (by omega)
      rw [q3] at hot
      have hop : op = (op.toNat : Int) := by omega
      have hxw : (lwordsL.map strD)[op.toNat]? = some (strD w) := by rw [List.getElem?_map, q1, Option.map_some]
      have hnm := named_fn w (by omega)
      have hnl := named_le w
      have hN3 := numbers_ok ([a, b, c].take (namedM w)) (fun n hn => by
        have := List.mem_of_mem_take hn
        simp only [List.mem_cons, List.not_mem_nil, or_false] at this
        rcases this with rfl | rfl | rfl
        · exact k2
        · exact k3
        · exact k4) (by rw [hot] at hol; simp only [List.length_cons, List.length_append] at hol; omega)
      unfold isD at hN3
      rw [List.map_take] at hN3
      have hI := itoa_fn li k5.1 k5.2
      generalize numsM ([a, b, c].take (namedM w)) = t3 at *
      generalize Lib.itoa li = t4 at *
      generalize namedM w = nm at *
      have hol2 : w.length + t3.length + t4.length ≤ 200 := by rw [hot] at hol; simp only [List.length_cons, List.length_append] at hol; omega
      have hW2 := ws_eq W ((((([32] ++ w) ++ t3) ++ [32, 64]) ++ t4) ++ [10]) W2 (by rw [hs, hot]; simp) (by simp only [List.length_cons, List.length_append, List.length_nil]; omega)
      have m1 : ([32] : List UInt8).length + (w : List UInt8).length ≤ 9223372036854775807 := by simp only [List.length_cons, List.length_nil]; omega
      have m2 : ([32] ++ w : List UInt8).length + (t3 : List UInt8).length ≤ 9223372036854775807 := by simp only [List.length_append, List.length_cons, List.length_nil]; omega
      have m3 : ([32] ++ w ++ t3 : List UInt8).length + ([32, 64] : List UInt8).length ≤ 9223372036854775807 := by simp only [List.length_append, List.length_cons, List.length_nil]; omega
      have m4 : ([32] ++ w ++ t3 ++ [32, 64] : List UInt8).length + (t4 : List UInt8).length ≤ 9223372036854775807 := by simp only [List.length_append, List.length_cons, List.length_nil]; omega
      have m5 : ([32] ++ w ++ t3 ++ [32, 64] ++ t4 : List UInt8).length + ([10] : List UInt8).length ≤ 9223372036854775807 := by simp only [List.length_append, List.length_cons, List.length_nil]; omega
      generalize op.toNat = k at *
      subst hop
      (repeat ((conv => whnf); (first | with_reducible refine exE _ (w_inc (by omega)) ?_ | refine exR ?_ | refine gd (enters_of Tryz.func33 rfl rfl) hnm ?_ | refine gd (enters_of Tryz.func32 rfl rfl) hN3 ?_ | refine gd (enters_of Tryz.func34 rfl rfl) hI ?_ | refine gO [(1000, 6)] (enters_of Tryz.func13 rfl rfl) hW2 ?_ | refine tT ?_ | refine oB ?_ | refine And.intro rfl ?_ | refine lQ ?_ | refine exI _ rfl (by assumption) ?_ | refine nA _ rfl ?_)))
      refine ⟨i + 1, by omega, by omega, fiE, (by rw [hWe]; exact fiO)⟩
    · have hi2 : co.take i = co := List.take_of_length_le (by omega)
      rw [hi2]
      have hS := bs_fn (A ++ co.flatMap orderT)
      (repeat ((conv => whnf); (first | refine exR ?_ | refine gO [(1000, 6)] (enters_of Tryz.func18 rfl rfl) hS ?_ | refine tF ?_)))
      exact ⟨eN, rS, fiO⟩
  · have hcl : ca.length = 0 := by rw [hc]; rfl
    rw [if_pos rfl, if_pos hc] at hA0
    have hW := ws_eq [] ([103, 101, 110] ++ (t1 ++ [10])) A (by rw [hA0]; simp) (by simp; omega)
    have l1 : (t1 : List UInt8).length + ([10] : List UInt8).length ≤ 9223372036854775807 := by simp only [List.length_cons, List.length_nil]; omega
    have l2 : ([103, 101, 110] : List UInt8).length + (t1 ++ [10] : List UInt8).length ≤ 9223372036854775807 := by simp only [List.length_append, List.length_cons, List.length_nil]; omega
    show FnD Tryz.prog 17 [.d (.agg [iD p, iD r, bD true, .sl 1 (ca.map iD), .sl 5 (co.map inD)]), .d (.sl 1 (lwordsL.map strD))] (strT (A ++ co.flatMap orderT))
    refine FnD.of1 (n := 69) [1002, 5006] fax_ok Tryz.func17 rfl rfl rfl (by rfl) (by kernel_rfl) (by intro _; rfl) fun Γ hA hbA => ?_
    (repeat ((conv => whnf); (first | refine exR ?_ | refine gd (enters_of Tryz.func32 rfl rfl) hN1 ?_ | refine tT ?_ | refine tF ?_ | refine lQ ?_)))
    refine gen_one (t_allocB (c := 6) (eb := 5) rfl (by kernel_rfl)) rfl ?_
    (repeat ((conv => whnf); refine gO [(1000, 6)] (enters_of Tryz.func13 rfl rfl) hW ?_))
    refine ev_loop [] fax_ok hA (by kernel_rfl) (fun i : Nat => i ≤ co.length) (fun i => [(1, .d (txD lwordsL)), (6, .ref 6 0), (35, .d (codeD co)), (36, intT (co.map inD).length), (37, intT i)]) (fun i => [(6, bldO (A ++ (co.take i).flatMap orderT))]) (fun i => co.length - i) 0 (Nat.zero_le _) fiE (by simp only [List.take_zero, List.flatMap_nil, List.append_nil]; exact fiO) ?_
    rintro i hi hb -
    have hmc : (co.map inD).length = co.length := List.length_map _
    by_cases h : i < co.length
    · have hx : (co.map inD)[i]? = some (inD co[i]) := by rw [List.getElem?_map, List.getElem?_eq_getElem h, Option.map_some]
      have hn := h6 co[i] (List.getElem_mem h)
      have ht : co.take (i + 1) = co.take i ++ [co[i]] := by rw [List.take_add_one, List.getElem?_eq_getElem h]; rfl
      have hs : A ++ (co.take (i + 1)).flatMap orderT = (A ++ (co.take i).flatMap orderT) ++ orderT co[i] := by rw [ht, List.flatMap_append]; simp
      have hpl := pre_len A (co.take i) fun x hx => order_len (h6 x (List.mem_of_mem_take hx))
      have htl : (co.take i).length ≤ 600 := by rw [List.length_take]; omega
      have hol := order_len hn
      have hot : orderT co[i] = 32 :: (lwordsL.getD co[i].op.toNat [] ++ numsM ([co[i].a, co[i].b, co[i].c].take (namedM (lwordsL.getD co[i].op.toNat []))) ++ strU " @" ++ Lib.itoa co[i].line ++ [10]) := rfl
      rw [show strU " @" = [32, 64] from by decide +kernel] at hot
      generalize A ++ (co.take i).flatMap orderT = W at *
      generalize hWe : A ++ (co.take (i + 1)).flatMap orderT = W2 at *
      generalize orderT co[i] = o1 at *
      generalize co[i] = ii at *
      obtain ⟨op, a, b, c, li⟩ := ii
      replace hx : (co.map inD)[i]? = some (.agg [iD op, iD a, iD b, iD c, iD li]) := hx
      obtain ⟨k1, k2, k3, k4, k5⟩ := hn
      dsimp only at k1 k2 k3 k4 k5 hot
      obtain ⟨w, q1, q2, q3⟩ := lw_at (k := op.toNat) (by omega)
      rw [q3] at hot
      have hop : op = (op.toNat : Int) := by omega
      have hxw : (lwordsL.map strD)[op.toNat]? = some (strD w) := by rw [List.getElem?_map, q1, Option.map_some]
      have hnm := named_fn w (by omega)
      have hnl := named_le w
      have hN3 := numbers_ok ([a, b, c].take (namedM w)) (fun n hn => by
        have := List.mem_of_mem_take hn
        simp only [List.mem_cons, List.not_mem_nil, or_false] at this
        rcases this with rfl | rfl | rfl
        · exact k2
        · exact k3
        · exact k4) (by rw [hot] at hol; simp only [List.length_cons, List.length_append] at hol; omega)
      unfold isD at hN3
      rw [List.map_take] at hN3
      have hI := itoa_fn li k5.1 k5.2
      generalize numsM ([a, b, c].take (namedM w)) = t3 at *
      generalize Lib.itoa li = t4 at *
      generalize namedM w = nm at *
      have hol2 : w.length + t3.length + t4.length ≤ 200 := by rw [hot] at hol; simp only [List.length_cons, List.length_append] at hol; omega
      have hW2 := ws_eq W ((((([32] ++ w) ++ t3) ++ [32, 64]) ++ t4) ++ [10]) W2 (by rw [hs, hot]; simp) (by simp only [List.length_cons, List.length_append, List.length_nil]; omega)
      have m1 : ([32] : List UInt8).length + (w : List UInt8).length ≤ 9223372036854775807 := by simp only [List.length_cons, List.length_nil]; omega
      have m2 : ([32] ++ w : List UInt8).length + (t3 : List UInt8).length ≤ 9223372036854775807 := by simp only [List.length_append, List.length_cons, List.length_nil]; omega
      have m3 : ([32] ++ w ++ t3 : List UInt8).length + ([32, 64] : List UInt8).length ≤ 9223372036854775807 := by simp only [List.length_append, List.length_cons, List.length_nil]; omega
      have m4 : ([32] ++ w ++ t3 ++ [32, 64] : List UInt8).length + (t4 : List UInt8).length ≤ 9223372036854775807 := by simp only [List.length_append, List.length_cons, List.length_nil]; omega
      have m5 : ([32] ++ w ++ t3 ++ [32, 64] ++ t4 : List UInt8).length + ([10] : List UInt8).length ≤ 9223372036854775807 := by simp only [List.length_append, List.length_cons, List.length_nil]; omega
      generalize op.toNat = k at *
      subst hop
      (repeat ((conv => whnf); (first | with_reducible refine exE _ (w_inc (by omega)) ?_ | refine exR ?_ | refine gd (enters_of Tryz.func33 rfl rfl) hnm ?_ | refine gd (enters_of Tryz.func32 rfl rfl) hN3 ?_ | refine gd (enters_of Tryz.func34 rfl rfl) hI ?_ | refine gO [(1000, 6)] (enters_of Tryz.func13 rfl rfl) hW2 ?_ | refine tT ?_ | refine oB ?_ | refine And.intro rfl ?_ | refine lQ ?_ | refine exI _ rfl (by assumption) ?_ | refine nA _ rfl ?_)))
      refine ⟨i + 1, by omega, by omega, fiE, (by rw [hWe]; exact fiO)⟩
    · have hi2 : co.take i = co := List.take_of_length_le (by omega)
      rw [hi2]
      have hS := bs_fn (A ++ co.flatMap orderT)
      (repeat ((conv => whnf); (first | refine exR ?_ | refine gO [(1000, 6)] (enters_of Tryz.func18 rfl rfl) hS ?_ | refine tF ?_)))
      exact ⟨eN, rS, fiO⟩
  · have hcl : 0 < ca.length := List.length_pos_iff.2 hc
    rw [if_pos rfl, if_neg hc] at hA0
    have hW := ws_eq [] (([103, 101, 110] ++ (t1 ++ [10])) ++ (([99, 97, 117, 103, 104, 116] ++ t2) ++ [10])) A (by rw [hA0]; simp) (by simp; omega)
    have l1 : (t1 : List UInt8).length + ([10] : List UInt8).length ≤ 9223372036854775807 := by simp only [List.length_cons, List.length_nil]; omega
    have l2 : ([103, 101, 110] : List UInt8).length + (t1 ++ [10] : List UInt8).length ≤ 9223372036854775807 := by simp only [List.length_append, List.length_cons, List.length_nil]; omega
    have l3 : ([99, 97, 117, 103, 104, 116] : List UInt8).length + (t2 : List UInt8).length ≤ 9223372036854775807 := by simp only [List.length_cons, List.length_nil]; omega
    have l4 : ([99, 97, 117, 103, 104, 116] ++ t2 : List UInt8).length + ([10] : List UInt8).length ≤ 9223372036854775807 := by simp only [List.length_append, List.length_cons, List.length_nil]; omega
    have l5 : ([103, 101, 110] ++ (t1 ++ [10]) : List UInt8).length + ([99, 97, 117, 103, 104, 116] ++ t2 ++ [10] : List UInt8).length ≤ 9223372036854775807 := by simp only [List.length_append, List.length_cons, List.length_nil]; omega
    show FnD Tryz.prog 17 [.d (.agg [iD p, iD r, bD true, .sl 1 (ca.map iD), .sl 5 (co.map inD)]), .d (.sl 1 (lwordsL.map strD))] (strT (A ++ co.flatMap orderT))
    refine FnD.of1 (n := 69) [1002, 5006] fax_ok Tryz.func17 rfl rfl rfl (by rfl) (by kernel_rfl) (by intro _; rfl) fun Γ hA hbA => ?_
    (repeat ((conv => whnf); (first | refine exR ?_ | refine gd (enters_of Tryz.func32 rfl rfl) hN1 ?_ | refine gd (enters_of Tryz.func32 rfl rfl) hN2 ?_ | refine tT ?_ | refine lQ ?_)))
    refine gen_one (t_allocB (c := 6) (eb := 5) rfl (by kernel_rfl)) rfl ?_
    (repeat ((conv => whnf); refine gO [(1000, 6)] (enters_of Tryz.func13 rfl rfl) hW ?_))
    refine ev_loop [] fax_ok hA (by kernel_rfl) (fun i : Nat => i ≤ co.length) (fun i => [(1, .d (txD lwordsL)), (6, .ref 6 0), (35, .d (codeD co)), (36, intT (co.map inD).length), (37, intT i)]) (fun i => [(6, bldO (A ++ (co.take i).flatMap orderT))]) (fun i => co.length - i) 0 (Nat.zero_le _) fiE (by simp only [List.take_zero, List.flatMap_nil, List.append_nil]; exact fiO) ?_
    rintro i hi hb -
    have hmc : (co.map inD).length = co.length := List.length_map _
    by_cases h : i < co.length
    · have hx : (co.map inD)[i]? = some (inD co[i]) := by rw [List.getElem?_map, List.getElem?_eq_getElem h, Option.map_some]
      have hn := h6 co[i] (List.getElem_mem h)
      have ht : co.take (i + 1) = co.take i ++ [co[i]] := by rw [List.take_add_one, List.getElem?_eq_getElem h]; rfl
      have hs : A ++ (co.take (i + 1)).flatMap orderT = (A ++ (co.take i).flatMap orderT) ++ orderT co[i] := by rw [ht, List.flatMap_append]; simp
      have hpl := pre_len A (co.take i) fun x hx => order_len (h6 x (List.mem_of_mem_take hx))
      have htl : (co.take i).length ≤ 600 := by rw [List.length_take]; omega
      have hol := order_len hn
      have hot : orderT co[i] = 32 :: (lwordsL.getD co[i].op.toNat [] ++ numsM ([co[i].a, co[i].b, co[i].c].take (namedM (lwordsL.getD co[i].op.toNat []))) ++ strU " @" ++ Lib.itoa co[i].line ++ [10]) := rfl
      rw [show strU " @" = [32, 64] from by decide +kernel] at hot
      generalize A ++ (co.take i).flatMap orderT = W at *
      generalize hWe : A ++ (co.take (i + 1)).flatMap orderT = W2 at *
      generalize orderT co[i] = o1 at *
      generalize co[i] = ii at *
      obtain ⟨op, a, b, c, li⟩ := ii
      replace hx : (co.map inD)[i]? = some (.agg [iD op, iD a, iD b, iD c, iD li]) := hx
      obtain ⟨k1, k2, k3, k4, k5⟩ := hn
      dsimp only at k1 k2 k3 k4 k5 hot
      obtain ⟨w, q1, q2, q3⟩ := lw_at (k := op.toNat) (by omega)
      rw [q3] at hot
      have hop : op = (op.toNat : Int) := by omega
      have hxw : (lwordsL.map strD)[op.toNat]? = some (strD w) := by rw [List.getElem?_map, q1, Option.map_some]
      have hnm := named_fn w (by omega)
      have hnl := named_le w
      have hN3 := numbers_ok ([a, b, c].take (namedM w)) (fun n hn => by
        have := List.mem_of_mem_take hn
        simp only [List.mem_cons, List.not_mem_nil, or_false] at this
        rcases this with rfl | rfl | rfl
        · exact k2
        · exact k3
        · exact k4) (by rw [hot] at hol; simp only [List.length_cons, List.length_append] at hol; omega)
      unfold isD at hN3
      rw [List.map_take] at hN3
      have hI := itoa_fn li k5.1 k5.2
      generalize numsM ([a, b, c].take (namedM w)) = t3 at *
      generalize Lib.itoa li = t4 at *
      generalize namedM w = nm at *
      have hol2 : w.length + t3.length + t4.length ≤ 200 := by rw [hot] at hol; simp only [List.length_cons, List.length_append] at hol; omega
      have hW2 := ws_eq W ((((([32] ++ w) ++ t3) ++ [32, 64]) ++ t4) ++ [10]) W2 (by rw [hs, hot]; simp) (by simp only [List.length_cons, List.length_append, List.length_nil]; omega)
      have m1 : ([32] : List UInt8).length + (w : List UInt8).length ≤ 9223372036854775807 := by simp only [List.length_cons, List.length_nil]; omega
      have m2 : ([32] ++ w : List UInt8).length + (t3 : List UInt8).length ≤ 9223372036854775807 := by simp only [List.length_append, List.length_cons, List.length_nil]; omega
      have m3 : ([32] ++ w ++ t3 : List UInt8).length + ([32, 64] : List UInt8).length ≤ 9223372036854775807 := by simp only [List.length_append, List.length_cons, List.length_nil]; omega
      have m4 : ([32] ++ w ++ t3 ++ [32, 64] : List UInt8).length + (t4 : List UInt8).length ≤ 9223372036854775807 := by simp only [List.length_append, List.length_cons, List.length_nil]; omega
      have m5 : ([32] ++ w ++ t3 ++ [32, 64] ++ t4 : List UInt8).length + ([10] : List UInt8).length ≤ 9223372036854775807 := by simp only [List.length_append, List.length_cons, List.length_nil]; omega
      generalize op.toNat = k at *
      subst hop
      (repeat ((conv => whnf); (first | with_reducible refine exE _ (w_inc (by omega)) ?_ | refine exR ?_ | refine gd (enters_of Tryz.func33 rfl rfl) hnm ?_ | refine gd (enters_of Tryz.func32 rfl rfl) hN3 ?_ | refine gd (enters_of Tryz.func34 rfl rfl) hI ?_ | refine gO [(1000, 6)] (enters_of Tryz.func13 rfl rfl) hW2 ?_ | refine tT ?_ | refine oB ?_ | refine And.intro rfl ?_ | refine lQ ?_ | refine exI _ rfl (by assumption) ?_ | refine nA _ rfl ?_)))
      refine ⟨i + 1, by omega, by omega, fiE, (by rw [hWe]; exact fiO)⟩
    · have hi2 : co.take i = co := List.take_of_length_le (by omega)
      rw [hi2]
      have hS := bs_fn (A ++ co.flatMap orderT)
      (repeat ((conv => whnf); (first | refine exR ?_ | refine gO [(1000, 6)] (enters_of Tryz.func18 rfl rfl) hS ?_ | refine tF ?_)))
      exact ⟨eN, rS, fiO⟩
end Go.Proofs.YtddmcmkhjkleoaaGreatDoor
end
