/- Merged texts: Gb Gc Gd -/
import Derived.Test.YtihhclhpjgeniaaGreatDoorSA19
import Derived.Test.YtihhclhpjgeniaaGreatDoorSA25
namespace Go.Proofs.YtihhclhpjgeniaaGreatDoor
open Go.RowKit Go.Sort
def idxI : Option Nat → Int
  | none => -1
  | some i => i
theorem cell_any {w : World} {q : Nat} {c : Value} {t : TypeId} (h : At w q #[c] t) : w.cell? ⟨q, 0, none⟩ = some c := At.cell h 0
set_option maxRecDepth 100000 in
theorem clB_any (b : NB) (n : List UInt8) (q : Nat) (w : World) (hq : At w q #[.string (mkB n)] 9) :
    Calls Tryz.prog 120 #[.agg #[.string (mkB b.name), .slice b.v.A b.v.n b.v.c, .slice b.v.B b.v.m b.v.d], .pointer (some ⟨q, 0, none⟩)] w fun r w' => r = .returned (.bool (b.name == n)) ∧ Below w.heap.size w w' := by
  have c0 := cell_any (hq.al (.cells #[.string (mkB b.name), .slice b.v.A b.v.n b.v.c, .slice b.v.B b.v.m b.v.d] 130))
  go_enter Tryz.func120, Tryz.ntmps120
  go_wp2_with fail
  go_ret
  exact ⟨rfl, belowA _ _⟩
abbrev NW.arr (x : NW) : Array Value := #[.string (mkB x.w.name), .string (mkB x.w.bun), .int .i64 x.w.hairs, .int .i64 x.w.done, .int .i64 x.w.shed, .int .i64 x.w.len, .int .i64 x.w.lvl, .int .i64 x.w.tone, .int .i64 x.w.bl, .string (mkB x.w.plait), .int .i64 x.w.state, .int .i64 x.w.price, .slice x.A x.n x.c]
set_option maxRecDepth 100000 in
theorem clW_any (x : NW) (n : List UInt8) (q : Nat) (w : World) (hq : At w q #[.string (mkB n)] 9) :
    Calls Tryz.prog 118 #[.agg x.arr, .pointer (some ⟨q, 0, none⟩)] w fun r w' => r = .returned (.bool (x.w.name == n)) ∧ Below w.heap.size w w' := by
  have c0 := cell_any (hq.al (.cells x.arr 126))
  go_enter Tryz.func118, Tryz.ntmps118
  go_wp2_with fail
  go_ret
  exact ⟨rfl, belowA _ _⟩
theorem find_at {α : Type} {p : α → Bool} {l : List α} {k : Nat} {a : α} (hk : l[k]? = some a) (hp : p a = true) (hno : ∀ x ∈ l.take k, p x = false) : l.findIdx? p = some k := by
  obtain ⟨hl, he⟩ := List.getElem?_eq_some_iff.1 hk
  rw [List.findIdx?_eq_some_iff_getElem]
  refine ⟨hl, by rw [he]; exact hp, fun j hj => ?_⟩
  have := hno l[j] (by rw [List.mem_take_iff_getElem]; exact ⟨j, by omega, rfl⟩)
  simpa using this
theorem find_no {α : Type} {p : α → Bool} {l : List α} (hno : ∀ x ∈ l, p x = false) : l.findIdx? p = none := by
  rw [List.findIdx?_eq_none_iff]
  exact hno
theorem find_map {α β : Type} (f : α → β) (p : β → Bool) (l : List α) : (l.map f).findIdx? p = l.findIdx? fun a => p (f a) := by
  rw [List.findIdx?_map]; rfl
set_option maxRecDepth 100000 in
set_option maxHeartbeats 1000000 in
theorem ixB_any (l : List NB) (A : Option Addr) (c : Nat) (n : List UInt8) (q : Nat) (w : World) (h : w.ownsRow 0 130 3 (.slice A l.length c) l.length (l.flatMap NB.cells)) (hq : At w q #[.string (mkB n)] 9) (hl : l.length ≤ 1000) :
    Calls Tryz.prog 119 #[.slice A l.length c, .func (.func 120) #[] #[.pointer (some ⟨q, 0, none⟩)]] w fun r w' => r = .returned (.int .i64 (idxI (l.findIdx? fun b => b.name == n))) ∧ Below w.heap.size w w' := by
  have HR := Lib.hid h
  have HQ := Lib.hid hq
  clear h hq
  obtain ⟨N, hN⟩ : ∃ N, l.length = N := ⟨_, rfl⟩
  have HN := Lib.hid hN
  rw [hN] at HR hl ⊢
  clear hN
  go_enter Tryz.func119, Tryz.ntmps119
  go_wp2_with fail
  go_loopw [8] (fun i wr => ∃ k : Nat, k ≤ N ∧ i = .int .i64 k ∧ (∀ x ∈ l.take k, (x.name == n) = false) ∧ Below w.heap.size w wr) (fun i _ => N - (intOf i).toNat)
  case atStart => exact ⟨0, by omega, rfl, by simp, Below.refl _ _⟩
  case round =>
    obtain ⟨k, hk, rfl, hno, hbw⟩ := hrel
    have HNO := Lib.hid hno
    have HW := Lib.hid hbw
    clear hno hbw
    by_cases hlt : k < N
    · obtain ⟨g, hg⟩ := own_form HR.out (by omega)
      have hx : ∃ b, l[k]? = some b := ⟨l[k]'(by rw [HN.out]; exact hlt), List.getElem?_eq_getElem _⟩
      obtain ⟨b, hb⟩ := hx
      have hrow := row_on HR.out HW.out
      rw [hg] at hrow ⊢
      have d0 : wr.cell? ⟨g, k * 3, none⟩ = some (.string (mkB b.name)) := own_cell nb_len (by omega) hrow hb (j := 0) (by omega)
      have d1 : wr.cell? ⟨g, k * 3 + 1, none⟩ = some (.slice b.v.A b.v.n b.v.c) := own_cell nb_len (by omega) hrow hb (j := 1) (by omega)
      have d2 : wr.cell? ⟨g, k * 3 + 2, none⟩ = some (.slice b.v.B b.v.m b.v.d) := own_cell nb_len (by omega) hrow hb (j := 2) (by omega)
      have HT := Lib.hid (take_succ_of hb)
      have HB := Lib.hid hb
      have v2 : IntKind.i64.wrap ((k : Int) + 1) = ((k + 1 : Nat) : Int) := by rw [IntWalk.i64_in _ (by omega)]; push_cast; rfl
      clear hb hrow
      go_wp2_with fail
      with_reducible refine (clB_any b n q wr (HQ.out.below HW.out)).mono ?_
      rintro _ w2 ⟨rfl, hb2⟩
      have HW2 := Lib.hid (below_trans' HW.out hb2)
      clear hb2 d0 d1 d2
      rcases Bool.eq_false_or_eq_true (b.name == n) with hf | hf
      · have HE : Hid (l.findIdx? (fun b => b.name == n) = some k) := Lib.hid (find_at HB.out hf HNO.out)
        rw [hf]
        clear hf
        go_wp2_with fail
        go_ret
        exact ⟨by rw [HE.out]; rfl, HW2.out⟩
      · have HF := Lib.hid hf
        rw [hf]
        clear hf
        go_wp2_with fail
        go_roundw
        case rel =>
          refine ⟨k + 1, by omega, by go_num, ?_, HW2.out⟩
          intro x hx
          rw [HT.out] at hx
          rcases List.mem_append.1 hx with hx | hx
          · exact HNO.out x hx
          · rw [List.mem_singleton.1 hx]; exact HF.out
        case measure => simp [intOf]; omega
    · have HE : Hid (l.findIdx? (fun b => b.name == n) = none) := Lib.hid (find_no fun x hx => HNO.out x (by rw [List.take_of_length_le (by rw [HN.out]; omega)]; exact hx))
      go_wp2_with fail
      go_ret
      exact ⟨by rw [HE.out]; rfl, HW.out⟩
set_option maxRecDepth 100000 in
set_option maxHeartbeats 1000000 in
theorem ixW_any (l : List NW) (A : Option Addr) (c : Nat) (n : List UInt8) (q : Nat) (w : World) (h : w.ownsRow 0 126 13 (.slice A l.length c) l.length (l.flatMap NW.cells)) (hq : At w q #[.string (mkB n)] 9) (hl : l.length ≤ 1000) :
    Calls Tryz.prog 117 #[.slice A l.length c, .func (.func 118) #[] #[.pointer (some ⟨q, 0, none⟩)]] w fun r w' => r = .returned (.int .i64 (idxI (l.findIdx? fun x => x.w.name == n))) ∧ Below w.heap.size w w' := by
  have HR := Lib.hid h
  have HQ := Lib.hid hq
  clear h hq
  obtain ⟨N, hN⟩ : ∃ N, l.length = N := ⟨_, rfl⟩
  have HN := Lib.hid hN
  rw [hN] at HR hl ⊢
  clear hN
  go_enter Tryz.func117, Tryz.ntmps117
  go_wp2_with fail
  go_loopw [8] (fun i wr => ∃ k : Nat, k ≤ N ∧ i = .int .i64 k ∧ (∀ x ∈ l.take k, (x.w.name == n) = false) ∧ Below w.heap.size w wr) (fun i _ => N - (intOf i).toNat)
  case atStart => exact ⟨0, by omega, rfl, by simp, Below.refl _ _⟩
  case round =>
    obtain ⟨k, hk, rfl, hno, hbw⟩ := hrel
    have HNO := Lib.hid hno
    have HW := Lib.hid hbw
    clear hno hbw
    by_cases hlt : k < N
    · obtain ⟨g, hg⟩ := own_form HR.out (by omega)
      have hx : ∃ b, l[k]? = some b := ⟨l[k]'(by rw [HN.out]; exact hlt), List.getElem?_eq_getElem _⟩
      obtain ⟨b, hb⟩ := hx
      have hrow := row_on HR.out HW.out
      rw [hg] at hrow ⊢
      have d0 : wr.cell? ⟨g, k * 13, none⟩ = some (.string (mkB b.w.name)) := own_cell nw_len (by omega) hrow hb (j := 0) (by omega)
      have d1 : wr.cell? ⟨g, k * 13 + 1, none⟩ = some (.string (mkB b.w.bun)) := own_cell nw_len (by omega) hrow hb (j := 1) (by omega)
      have d2 : wr.cell? ⟨g, k * 13 + 2, none⟩ = some (.int .i64 b.w.hairs) := own_cell nw_len (by omega) hrow hb (j := 2) (by omega)
      have d3 : wr.cell? ⟨g, k * 13 + 3, none⟩ = some (.int .i64 b.w.done) := own_cell nw_len (by omega) hrow hb (j := 3) (by omega)
      have d4 : wr.cell? ⟨g, k * 13 + 4, none⟩ = some (.int .i64 b.w.shed) := own_cell nw_len (by omega) hrow hb (j := 4) (by omega)
      have d5 : wr.cell? ⟨g, k * 13 + 5, none⟩ = some (.int .i64 b.w.len) := own_cell nw_len (by omega) hrow hb (j := 5) (by omega)
      have d6 : wr.cell? ⟨g, k * 13 + 6, none⟩ = some (.int .i64 b.w.lvl) := own_cell nw_len (by omega) hrow hb (j := 6) (by omega)
      have d7 : wr.cell? ⟨g, k * 13 + 7, none⟩ = some (.int .i64 b.w.tone) := own_cell nw_len (by omega) hrow hb (j := 7) (by omega)
      have d8 : wr.cell? ⟨g, k * 13 + 8, none⟩ = some (.int .i64 b.w.bl) := own_cell nw_len (by omega) hrow hb (j := 8) (by omega)
      have d9 : wr.cell? ⟨g, k * 13 + 9, none⟩ = some (.string (mkB b.w.plait)) := own_cell nw_len (by omega) hrow hb (j := 9) (by omega)
      have d10 : wr.cell? ⟨g, k * 13 + 10, none⟩ = some (.int .i64 b.w.state) := own_cell nw_len (by omega) hrow hb (j := 10) (by omega)
      have d11 : wr.cell? ⟨g, k * 13 + 11, none⟩ = some (.int .i64 b.w.price) := own_cell nw_len (by omega) hrow hb (j := 11) (by omega)
      have d12 : wr.cell? ⟨g, k * 13 + 12, none⟩ = some (.slice b.A b.n b.c) := own_cell nw_len (by omega) hrow hb (j := 12) (by omega)
      have HT := Lib.hid (take_succ_of hb)
      have HB := Lib.hid hb
      have v2 : IntKind.i64.wrap ((k : Int) + 1) = ((k + 1 : Nat) : Int) := by rw [IntWalk.i64_in _ (by omega)]; push_cast; rfl
      clear hb hrow
      go_wp2_with fail
      with_reducible refine (clW_any b n q wr (HQ.out.below HW.out)).mono ?_
      rintro _ w2 ⟨rfl, hb2⟩
      have HW2 := Lib.hid (below_trans' HW.out hb2)
      clear hb2 d0 d1 d2 d3 d4 d5 d6 d7 d8 d9 d10 d11 d12
      rcases Bool.eq_false_or_eq_true (b.w.name == n) with hf | hf
      · have HE : Hid (l.findIdx? (fun x => x.w.name == n) = some k) := Lib.hid (find_at HB.out hf HNO.out)
        rw [hf]
        clear hf
        go_wp2_with fail
        go_ret
        exact ⟨by rw [HE.out]; rfl, HW2.out⟩
      · have HF := Lib.hid hf
        rw [hf]
        clear hf
        go_wp2_with fail
        go_roundw
        case rel =>
          refine ⟨k + 1, by omega, by go_num, ?_, HW2.out⟩
          intro x hx
          rw [HT.out] at hx
          rcases List.mem_append.1 hx with hx | hx
          · exact HNO.out x hx
          · rw [List.mem_singleton.1 hx]; exact HF.out
        case measure => simp [intOf]; omega
    · have HE : Hid (l.findIdx? (fun x => x.w.name == n) = none) := Lib.hid (find_no fun x hx => HNO.out x (by rw [List.take_of_length_le (by rw [HN.out]; omega)]; exact hx))
      go_wp2_with fail
      go_ret
      exact ⟨by rw [HE.out]; rfl, HW.out⟩
end Go.Proofs.YtihhclhpjgeniaaGreatDoor
namespace Go.Proofs.YtihhclhpjgeniaaGreatDoor
open Go.RowKit Go.Sort
theorem bun_idx (v : RV) (n : List UInt8) : v.rm.bun n = v.bs.findIdx? fun b => b.name == n := by
  unfold Rm.bun RV.rm
  exact find_map (fun b : NB => (b.name, b.v.h)) (fun b => b.1 == n) v.bs
theorem wig_idx (v : RV) (n : List UInt8) : v.rm.wig n = v.ws.findIdx? fun x => x.w.name == n := by
  unfold Rm.wig RV.rm
  exact find_map (fun x : NW => x.w) (fun w => w.name == n) v.ws
set_option maxRecDepth 100000 in
set_option maxHeartbeats 1000000 in
theorem bundleR_any (v : RV) (s : Int) (p : Nat) (n : List UInt8) (w : World) (h : v.In s p w) (hl : v.bs.length ≤ 12) :
    Calls Tryz.prog 68 #[.pointer (some ⟨p, 0, none⟩), .string (mkB n)] w fun r w' => r = .returned (.int .i64 (idxI (v.rm.bun n))) ∧ Below w.heap.size w w' := by
  have H := Lib.hid h
  have c2 : (w.alloc (.cells #[.string (mkB n)] 9)).cell? ⟨p, 2, none⟩ = some (.slice v.A v.bs.length v.ca) := At.cell (h.room.al _) 2
  clear h
  go_enter Tryz.func68, Tryz.ntmps68
  go_wp2_with fail
  clear c2
  with_reducible refine (ixB_any v.bs v.A v.ca n w.heap.size _ (H.out.below (belowA _ _)).rb (At.new _ _ _) (by omega)).mono ?_
  rintro _ w2 ⟨rfl, hb⟩
  have HB := Lib.hid (below1 _ hb)
  clear hb
  go_wp2_with fail
  go_ret
  exact ⟨by rw [bun_idx]; rfl, HB.out⟩
set_option maxRecDepth 100000 in
set_option maxHeartbeats 1000000 in
theorem wigR_any (v : RV) (s : Int) (p : Nat) (n : List UInt8) (w : World) (h : v.In s p w) (hl : v.ws.length ≤ 12) :
    Calls Tryz.prog 65 #[.pointer (some ⟨p, 0, none⟩), .string (mkB n)] w fun r w' => r = .returned (.int .i64 (idxI (v.rm.wig n))) ∧ Below w.heap.size w w' := by
  have H := Lib.hid h
  have c2 : (w.alloc (.cells #[.string (mkB n)] 9)).cell? ⟨p, 3, none⟩ = some (.slice v.B v.ws.length v.cb) := At.cell (h.room.al _) 3
  clear h
  go_enter Tryz.func65, Tryz.ntmps65
  go_wp2_with fail
  clear c2
  with_reducible refine (ixW_any v.ws v.B v.cb n w.heap.size _ (H.out.below (belowA _ _)).rw (At.new _ _ _) (by omega)).mono ?_
  rintro _ w2 ⟨rfl, hb⟩
  have HB := Lib.hid (below1 _ hb)
  clear hb
  go_wp2_with fail
  go_ret
  exact ⟨by rw [wig_idx]; rfl, HB.out⟩
theorem zero4 (w : World) : (zeroValue 4).run Tryz.prog w = .ok (.bool false) w := by kernel_rfl
set_option maxRecDepth 100000 in
theorem UsedIn.look {w : World} {b : Nat} {l : List (List UInt8)} (h : UsedIn w b l) (n : List UInt8) (hn : n.length ≤ maxLen) : (Instr.lookup 107 (.map (some b)) (.string (mkB n)) false).run Tryz.prog w = .ok (.bool (l.contains n)) w := by
  obtain ⟨D, h1, h2⟩ := h
  obtain ⟨v, ps, hr, hv⟩ := h1.lookup (Maps.string_keyed Tryz.underlying9) Tryz.underlying107 (zero4 w) (plainElem_bool Tryz.underlying4 false) (keyS n hn)
  rw [h2 n] at hv
  rw [hr]
  have hvb : v = .bool (l.contains n) := by
    unfold plainElem at hv
    rw [Tryz.underlying4] at hv
    cases v <;> simp at hv
    rw [hv.1]; simp
  rw [hvb]
theorem fresh_eq (v : RV) (n : List UInt8) : v.rm.fresh n = (okName n && !(v.used.contains n)) := rfl
set_option maxRecDepth 100000 in
set_option maxHeartbeats 1000000 in
theorem freshR_any (v : RV) (s : Int) (p : Nat) (n : List UInt8) (w : World) (h : v.In s p w) (hn : n.length ≤ 1000000) :
    Calls Tryz.prog 217 #[.pointer (some ⟨p, 0, none⟩), .string (mkB n)] w fun r w' => r = .returned (.bool (v.rm.fresh n)) ∧ w' = w := by
  have hl := h.mp.look n (by unfold maxLen; omega)
  have c4 : w.cell? ⟨p, 4, none⟩ = some (.map (some v.M)) := At.cell h.room 4
  have hf := fresh_eq v n
  obtain ⟨u, hu⟩ : ∃ u, v.used.contains n = u := ⟨_, rfl⟩
  rw [hu] at hl hf
  have HF := Lib.hid hf
  clear h hf hu
  go_enter Tryz.func217, Tryz.ntmps217
  go_wp2_with fail
  with_reducible refine (roomName_any (mkB n) w (by rw [size_mk]; exact hn)).mono ?_
  rintro _ w1 ⟨rfl, rfl⟩
  rw [show (mkB n).data.toList = n from rfl]
  cases ho : okName n with
  | false =>
    rw [ho] at HF
    go_wp2_with fail
    go_ret
    exact ⟨by rw [HF.out]; rfl, rfl⟩
  | true =>
    rw [ho] at HF
    go_wp2_with fail
    go_ret
    exact ⟨by rw [HF.out]; rfl, rfl⟩
theorem UsedIn.store {w : World} {b : Nat} {l : List (List UInt8)} (h : UsedIn w b l) (n : List UInt8) (hn : n.length ≤ maxLen) (hl : l.length < maxLen) :
    ∃ w', (Instr.mapUpdate 107 (.map (some b)) (.string (mkB n)) (.bool true)).run Tryz.prog w = .ok () w' ∧ UsedIn w' b (l ++ [n]) ∧ w.grownBy w' (some b) := by
  obtain ⟨D, h1, h2⟩ := h
  obtain ⟨w', hr, h3, h4⟩ := h1.update (Maps.string_keyed Tryz.underlying9) Tryz.underlying107 hl (keyS n hn) (plainElem_bool Tryz.underlying4 true)
  refine ⟨w', hr, ⟨_, by rw [List.length_append]; exact h3, fun m => ?_⟩, h4⟩
  by_cases e : m = n
  · subst e
    rw [Maps.atKey_put_same h1.isMap ((Maps.string_keyed Tryz.underlying9).key (keyS m hn))]
    simp
  · rw [Maps.atKey_put_other (by simpa using e), h2 m]
    simp [e]
theorem info130 : (Tryz.prog.info? 130).map (fun i => (i.zero, i.size, i.bytes)) = some (some (.agg #[.string ByteArray.empty, .slice none 0 0, .slice none 0 0]), 3, 64) := by kernel_rfl
theorem grown_on {W X X' : World} {row : Option Nat} (h : W.grownBy X row) (hb : Below X.heap.size X X') : W.grownBy X' row :=
  ⟨hb.os.trans h.os, hb.tape.trans h.tape, hb.output.trans h.output, Nat.le_trans h.size hb.size, fun k hk hne => (hb.block k (Nat.lt_of_lt_of_le hk h.size)).trans (h.block k hk hne)⟩
theorem nb_one (b : NB) : ∀ u ∈ b.cells, u.oneCell' = true := by
  intro u hu
  simp only [NB.cells, List.mem_cons, List.not_mem_nil, or_false] at hu
  rcases hu with rfl | rfl | rfl <;> rfl
structure AS (p K : Nat) (cs : Array Value) (u : BV) (W : World) : Prop where
  a : At W p cs 109
  b : At W K u.arr 56
theorem AS.below {p K : Nat} {cs : Array Value} {u : BV} {W W' : World} (h : AS p K cs u W) (hb : Below W.heap.size W W') : AS p K cs u W' := ⟨h.a.below hb, h.b.below hb⟩
set_option maxRecDepth 100000 in
set_option maxHeartbeats 1000000 in
theorem addR_any (v : RV) (s : Int) (p : Nat) (n : List UInt8) (u : BV) (w : World) (h : v.In s p w) (hu : u.In w) (hn : n.length ≤ 1000000) (hl : v.used.length ≤ 1000000) (hnu : ∀ k, blk u.A u.n k ∨ blk u.B u.m k → ¬ v.F p k ∧ 8 ≤ k) (hbl : v.bs.length ≤ 1000) :
    Calls Tryz.prog 218 #[.pointer (some ⟨p, 0, none⟩), .string (mkB n), .agg u.arr] w fun r w' => r = .returned (.tuple #[]) ∧ ∃ A' c', ({ v with A := A', ca := c', bs := v.bs ++ [⟨n, u⟩], used := v.used ++ [n] } : RV).In s p w' ∧
      ∀ v0 w0, Rs p v0 w0 v w → (∀ k, blk u.A u.n k ∨ blk u.B u.m k → w0.heap.size ≤ k) → Rs p v0 w0 { v with A := A', ca := c', bs := v.bs ++ [⟨n, u⟩], used := v.used ++ [n] } w' := by
  have H := Lib.hid (h.below (belowA w (.cells u.arr 56)))
  have HU := Lib.hid (hu.below (belowA w (.cells u.arr 56)))
  have KB := Lib.hid (At.new w u.arr 56)
  have c4 : (w.alloc (.cells u.arr 56)).cell? ⟨p, 4, none⟩ = some (.map (some v.M)) := At.cell H.out.room 4
  obtain ⟨w1, hr, hm, hg⟩ := H.out.mp.store n (by unfold maxLen; omega) (by unfold maxLen; omega)
  have HRS := Lib.hid (show ∀ v0 w0, Rs p v0 w0 v w → Rs p v0 w0 v (w.alloc (.cells u.arr 56)) from fun v0 w0 k => k.grow (belowA _ _))
  have HLT := Lib.hid (show ∀ k, v.F p k ∨ v.C k → k < w.heap.size from fun k hk => h.lt hk)
  clear h hu
  go_enter Tryz.func218, Tryz.ntmps218
  go_wp2_with fail
  obtain ⟨hv1, hk1⟩ := H.out.addN hm hg
  have hMw : v.M < w.heap.size := HLT.out _ (.inl (.inr (.inl rfl)))
  have HV1 := Lib.hid hv1
  have HK1 := Lib.hid hk1
  have KB1 := Lib.hid (At.kp KB.out hk1 (by omega))
  have HU1 := Lib.hid (HU.out.kb hk1 (fun b hb e => (hnu b (.inl hb)).1 (by rw [e]; exact .inr (.inl rfl))) (fun b hb e => (hnu b (.inr hb)).1 (by rw [e]; exact .inr (.inl rfl))))
  have HS1 : Hid (AS p w.heap.size (({ v with used := v.used ++ [n] } : RV).cells s) u w1) := Lib.hid ⟨hv1.room, KB1.out⟩
  clear hv1 hk1 hr hm hg c4 KB HU
  refine wp_region_hv [0, 1, 2, 3, 4, 5, 6, 7, 10, 11] [8, 9, 12] (fun W => AS p w.heap.size (({ v with used := v.used ++ [n] } : RV).cells s) u W) mixed (by kernel_rfl) (fun W W' h hb => h.below hb) ⟨HS1.out.a, HS1.out.b⟩ ?_
  iterate 10
    refine canonG_read (v := ?_) rfl (by rfl) ?_ ?_
    rotate_left
    · intro W hS
      have q2 : W.cell? ⟨p, 2, none⟩ = some (.slice v.A v.bs.length v.ca) := At.cell hS.a 2
      have q0 := At.cell hS.b
      go_simp <;> with_reducible rfl
    simp only [List.getElem_toArray, List.getElem_cons_zero, List.getElem_cons_succ, Act.put, List.setIfInBounds_toArray, List.set_cons_succ, List.set_cons_zero]
  refine canonG_nil ?_
  refine tailG_one (t := 8) (ts' := [9, 12]) (by kernel_rfl) rfl rfl ?_
  intro W2 hb2
  have V2 := Lib.hid (HV1.out.below (undrew hb2))
  have U2 := Lib.hid (HU1.out.below (undrew hb2))
  have S2 := Lib.hid (HS1.out.below (undrew hb2))
  have K2 := Lib.hid (HK1.out.grow (undrew hb2))
  clear hb2 HV1 HU1 HS1 HK1
  go_wp2_with fail
  have N3 := Lib.hid (At.new W2 #[.string (mkB n), .slice u.A u.n u.c, .slice u.B u.m u.d] 130)
  have V3 := Lib.hid (V2.out.below (belowA W2 (.cells #[.string (mkB n), .slice u.A u.n u.c, .slice u.B u.m u.d] 130)))
  have U3 := Lib.hid (U2.out.below (belowA W2 (.cells #[.string (mkB n), .slice u.A u.n u.c, .slice u.B u.m u.d] 130)))
  have S3 := Lib.hid (S2.out.below (belowA W2 (.cells #[.string (mkB n), .slice u.A u.n u.c, .slice u.B u.m u.d] 130)))
  have K3 := Lib.hid (K2.out.grow (belowA W2 (.cells #[.string (mkB n), .slice u.A u.n u.c, .slice u.B u.m u.d] 130)))
  clear V2 U2 S2 K2
  generalize W2.alloc (.cells #[.string (mkB n), .slice u.A u.n u.c, .slice u.B u.m u.d] 130) = W3 at N3 V3 U3 S3 K3 ⊢
  generalize W2.heap.size = M at N3 ⊢
  refine ⟨S3.out, ?_⟩
  refine tailG_one (t := 9) (ts' := [12]) (by kernel_rfl) rfl rfl ?_
  intro W4 hb4
  have N4 := Lib.hid (N3.out.below hb4)
  have V4 := Lib.hid (V3.out.below hb4)
  have U4 := Lib.hid (U3.out.below hb4)
  have S4 := Lib.hid (S3.out.below hb4)
  have K4 := Lib.hid (K3.out.grow hb4)
  clear hb4 N3 V3 U3 S3 K3
  have hrd : Reads W4 W4.heap.size 3 (some ⟨M, 0, none⟩) 1 (NB.cells ⟨n, u⟩) := ⟨rfl, fun _ => ⟨_, rfl, N4.out.lt, fun j x hj => by rw [Addr.add_mid, Nat.zero_add, At.cell N4.out j]; simpa [NB.cells] using hj⟩⟩
  refine wpList_pushXm rfl _ _ 105 130 rfl Tryz.underlying105 info130 rfl (by decide) (by decide) 0 _ v.A v.bs.length v.ca (v.bs.flatMap NB.cells) (some ⟨M, 0, none⟩) 1 1 (NB.cells ⟨n, u⟩) rfl V4.out.rb (Nat.zero_le _) rfl hrd (nb_one _) (by omega) ?_
  intro A' c' X ho hg hl2
  have hbp := V4.out.ne_p
  have hpK : p < w.heap.size := HLT.out p (.inl (.inl rfl))
  have S5 : Hid (AS p w.heap.size (({ v with used := v.used ++ [n] } : RV).cells s) u X) := Lib.hid ⟨S4.out.a.grown hg (fun e => by
      obtain ⟨a, ha, hk⟩ := ownb e
      exact hbp.2.1 a ha hk), S4.out.b.grown hg (fun e => by
      obtain ⟨a, ha, hk⟩ := ownb e
      have := HLT.out a.block (.inl (.inr (.inr (.inl ⟨a, ha, rfl⟩))))
      omega)⟩
  have HO := Lib.hid ho
  have HG := Lib.hid hg
  have HL2 := Lib.hid hl2
  clear ho hg hl2 hbp hrd
  go_wp2_with fail
  refine ⟨S5.out, ?_⟩
  refine tailG_last (t := 12) (by kernel_rfl) rfl ?_
  intro W5 hb5
  have HO5 := Lib.hid (row_on HO.out hb5)
  have HG5 := Lib.hid (grown_on HG.out hb5)
  have S6 := Lib.hid (S5.out.below hb5)
  clear hb5 HO HG S5
  have fr := S6.out.a.fz
  have cr : W5.cell? ⟨p, 2, none⟩ = some (.slice v.A v.bs.length v.ca) := At.cell S6.out.a 2
  go_wp2_with fail
  refine NoPanic.normal ?_
  go_wp2_with fail
  go_end0
  obtain ⟨r1, r2, r3, r4⟩ := V4.out.addB (b := ⟨n, u⟩) U4.out hnu HO5.out HG5.out HL2.out
  refine ⟨rfl, A', c', r1, fun v0 w0 k0 hnew => ?_⟩
  have q1 := (HRS.out v0 w0 k0).step K4.out (v2 := { v with used := v.used ++ [n] }) (fun x _ e => .inr (.inl e)) (fun j hj => .inl hj) (fun j hj => .inl hj)
  have hsz := q1.kp.size
  refine q1.step r2 (fun x _ e => ?_) (fun j hj => (r3 j hj).imp id fun h => Nat.le_trans hsz h) (fun j hj => (r4 j hj).imp id (hnew j))
  rcases e with e | e
  · exact .inl e
  · exact .inr (.inr (.inl e))
end Go.Proofs.YtihhclhpjgeniaaGreatDoor
namespace Go.Proofs.YtihhclhpjgeniaaGreatDoor
open Go.RowKit Go.Sort
structure OV where
  o : Ordr
  form : List UInt8
  f : Value
  A : Option Addr
  n : Nat
  c : Nat
  B : Option Addr
  m : Nat
  d : Nat
abbrev OV.arr (x : OV) : Array Value := #[.int .i64 x.o.kind, .string (mkB x.form), x.f, .slice x.A x.n x.c, .string (mkB x.o.style), .slice x.B x.m x.d]
structure OV.In (x : OV) (w : World) : Prop where
  r : Reads w w.heap.size 1 x.A x.n (strL x.o.names)
  s : Reads w w.heap.size 1 x.B x.m (ints x.o.nums)
theorem OV.In.below {x : OV} {w w' : World} (h : x.In w) (hb : Below w.heap.size w w') : x.In w' := ⟨h.r.on hb, h.s.on hb⟩
theorem OV.In.n {x : OV} {w : World} (h : x.In w) : x.n = x.o.names.length := by have := h.r.1; rw [strL_len] at this; omega
theorem OV.In.m {x : OV} {w : World} (h : x.In w) : x.m = x.o.nums.length := by have := h.s.1; rw [ints_length] at this; omega
theorem OV.In.name {x : OV} {w : World} (h : x.In w) {k : Nat} {a : List UInt8} (hk : x.o.names[k]? = some a) : ∃ ad : Addr, x.A = some ad ∧ w.cell? (ad.add k) = some (.string (mkB a)) ∧ k < x.n ∧ ad.block < w.heap.size := by
  have hl := (List.getElem?_eq_some_iff.1 hk).1
  have hn := h.n
  obtain ⟨ad, e, hb, hc⟩ := h.r.2 (by omega)
  refine ⟨ad, e, ?_, by omega, hb⟩
  exact hc k _ (by simp [strL, hk])
theorem OV.In.num {x : OV} {w : World} (h : x.In w) {k : Nat} {a : Int} (hk : x.o.nums[k]? = some a) : ∃ ad : Addr, x.B = some ad ∧ w.cell? (ad.add k) = some (.int .i64 a) ∧ k < x.m ∧ ad.block < w.heap.size := by
  have hl := (List.getElem?_eq_some_iff.1 hk).1
  have hn := h.m
  obtain ⟨ad, e, hb, hc⟩ := h.s.2 (by omega)
  refine ⟨ad, e, ?_, by omega, hb⟩
  exact hc k _ (by simp [ints, hk])
theorem ws_at (v : RV) (i : Nat) : v.rm.ws[i]? = v.ws[i]?.map (·.w) := by simp [RV.rm]
theorem bs_at (v : RV) (i : Nat) : v.rm.hr i = (v.bs[i]?.map (·.v.h)).getD noH := by
  unfold Rm.hr RV.rm
  simp only [List.getElem?_map]
  cases v.bs[i]? <;> rfl
def WigAt (v : RV) (i : Nat) (q : Option Addr) : Prop := ∃ g, v.B = some ⟨g, 0, none⟩ ∧ q = some ⟨g, i * 13, none⟩
theorem inW_none {r : Rm} {a : List UInt8} (s : Int) (h : r.wig a = none) : (inW r a s).1 = 5 := by unfold inW; rw [h]
theorem inW_some {r : Rm} {a : List UInt8} (s : Int) {i : Nat} {w : Wg} (h : r.wig a = some i) (hi : r.ws[i]? = some w) : inW r a s = (if w.state = s then 0 else 13, i, w) := by
  unfold inW; rw [h]; dsimp only; rw [hi]; dsimp only; split <;> rfl
set_option maxRecDepth 100000 in
set_option maxHeartbeats 1000000 in
theorem inR_any (v : RV) (st : Int) (p : Nat) (x : OV) (a : List UInt8) (s : Int) (w : World) (h : v.In st p w) (hx : x.In w) (ha : x.o.names[0]? = some a) (hl : v.ws.length ≤ 12) :
    Calls Tryz.prog 227 #[.pointer (some ⟨p, 0, none⟩), .agg x.arr, .int .i64 s] w fun r w' => (∃ q : Option Addr, r = .returned (.tuple #[.pointer q, .int .i64 (inW v.rm a s).1]) ∧ ((inW v.rm a s).1 = 0 → WigAt v (inW v.rm a s).2.1 q)) ∧ Below w.heap.size w w' := by
  have H := Lib.hid (h.below (belowA w (.cells x.arr 114)))
  have KB := Lib.hid (At.new w x.arr 114)
  obtain ⟨ad, e1, hc, hk, _⟩ := (hx.below (belowA w (.cells x.arr 114))).name ha
  rw [show ad.add 0 = ad from rfl] at hc
  clear h hx ha
  go_enter Tryz.func227, Tryz.ntmps227
  go_wp2_with fail
  with_reducible refine (wigR_any v st p a _ H.out hl).mono ?_
  rintro _ w2 ⟨rfl, hb⟩
  have H2 := Lib.hid (H.out.below hb)
  have HB := Lib.hid (below1 _ hb)
  clear hb hc H KB
  cases hw : v.rm.wig a with
  | none =>
    have HE := Lib.hid (inW_none s hw)
    rw [show idxI none = -1 from rfl]
    clear hw
    go_wp2_with fail
    go_ret2
    exact ⟨⟨none, by rw [HE.out]; rfl, fun h => by rw [HE.out] at h; cases h⟩, HB.out⟩
  | some i =>
    have hi := hw
    rw [wig_idx] at hi
    obtain ⟨hil, _⟩ := findIdx_lt hi
    obtain ⟨y, hy⟩ : ∃ y, v.ws[i]? = some y := ⟨v.ws[i], List.getElem?_eq_getElem hil⟩
    have HE := Lib.hid (inW_some s hw (by rw [ws_at, hy]; rfl))
    rw [show idxI (some i) = (i : Int) from rfl]
    obtain ⟨g, hg⟩ := own_form H2.out.rw (by omega)
    have hrow := H2.out.rw
    rw [hg] at hrow
    have d10 : w2.cell? ⟨g, i * 13 + 10, none⟩ = some (.int .i64 y.w.state) := own_cell nw_len (by omega) hrow hy (j := 10) (by omega)
    have c3 : w2.cell? ⟨p, 3, none⟩ = some (.slice (some ⟨g, 0, none⟩) v.ws.length v.cb) := by rw [← hg]; exact At.cell H2.out.room 3
    have HG := Lib.hid hg
    clear hw hi hy hrow hg
    by_cases hs : y.w.state = s
    · go_wp2_with fail
      go_ret2
      rw [if_pos hs] at HE
      exact ⟨⟨some ⟨g, i * 13, none⟩, by rw [HE.out]; rfl, fun _ => by rw [HE.out]; exact ⟨g, HG.out, rfl⟩⟩, HB.out⟩
    · have hs2 : (y.w.state == s) = false := by simpa using hs
      go_wp2_with fail
      go_ret2
      rw [if_neg hs] at HE
      exact ⟨⟨none, by rw [HE.out]; rfl, fun h => by rw [HE.out] at h; cases h⟩, HB.out⟩
def RetO (v : RV) (st : Int) (p : Nat) (w : World) (x : Int × Rm) (r : Ending) (w' : World) : Prop :=
  r = .returned (.int .i64 x.1) ∧ ∃ v' : RV, v'.rm = x.2 ∧ v'.In st p w' ∧ Rs p v w v' w'
theorem retO_no {v : RV} {st : Int} {p : Nat} {w w' : World} {x : Int × Rm} {e : Int} (hx : x = (e, v.rm)) (h : v.In st p w') (hb : Below w.heap.size w w') : RetO v st p w x (.returned (.int .i64 e)) w' := by
  subst hx
  exact ⟨rfl, v, rfl, h, Rs.below hb⟩
theorem inW_at {r : Rm} {a : List UInt8} {s : Int} (h : (inW r a s).1 = 0) : r.ws[(inW r a s).2.1]? = some (inW r a s).2.2 := (inW_zero h).1
theorem wig_nw {v : RV} {a : List UInt8} {s : Int} (h : (inW v.rm a s).1 = 0) : ∃ y, v.ws[(inW v.rm a s).2.1]? = some y ∧ y.w = (inW v.rm a s).2.2 := by
  have := inW_at h
  rw [ws_at] at this
  cases hy : v.ws[(inW v.rm a s).2.1]? with
  | none => rw [hy] at this; cases this
  | some y => rw [hy] at this; exact ⟨y, rfl, by injection this⟩
theorem rm_setW (v : RV) (i : Nat) (y : NW) : ({ v with ws := v.ws.set i y } : RV).rm = v.rm.setW i y.w := by
  simp [RV.rm, Rm.setW, List.map_set]
theorem RV.In.far {v : RV} {st : Int} {p : Nat} {w : World} (h : v.In st p w) {k : Nat} (hk : v.C k ∨ w.heap.size ≤ k) : ¬ v.F p k ∧ 8 ≤ k := by
  rcases hk with hk | hk
  · exact ⟨h.sep k hk, h.g k (.inr hk)⟩
  · refine ⟨fun hf => ?_, ?_⟩
    · have := h.lt (.inl hf); omega
    · have h1 := h.lt (k := p) (.inl (.inl rfl))
      have h2 := h.g p (.inl (.inl rfl))
      omega
theorem wig_end {v : RV} {st : Int} {p : Nat} {w w2 : World} {v1 : RV} (h : v.In st p w) (h2 : v1.In st p w2) (hrs : Rs p v w v1 w2) (hF : ∀ k, v1.F p k → v.F p k) {g i : Nat} (hg : v1.B = some ⟨g, 0, none⟩) {y z : NW} (hy : v1.ws[i]? = some y) {j : Nat} {vs : List Value} (hj : j + vs.length ≤ 13) (hz : z.cells = ovr y.cells j vs)
    (hr : Reads w2 w2.heap.size 6 z.A z.n (ents z.w.card) ∧ z.n ≤ z.c) (hnew : ∀ k, blk z.A z.n k → v1.C k ∨ w.heap.size ≤ k) :
    ({ v1 with ws := v1.ws.set i z } : RV).In st p (w2.setCells g (i * 13 + j) vs) ∧ Rs p v w { v1 with ws := v1.ws.set i z } (w2.setCells g (i * 13 + j) vs) := by
  have hn : ∀ k, blk z.A z.n k → ¬ v1.F p k ∧ 8 ≤ k := fun k hk => by
    rcases hnew k hk with h3 | h3
    · exact ⟨h2.sep k h3, h2.g k (.inr h3)⟩
    · have h8 := (h.far (.inr h3)).2
      exact ⟨fun hf => (h.far (.inr h3)).1 (hF k hf), h8⟩
  obtain ⟨r1, r2, r3⟩ := h2.putW hg hy hj hz hr hn
  exact ⟨r1, hrs.step r2 (fun x _ e => by rw [e]; exact .inr (.inr (.inr (.inl ⟨_, hg, rfl⟩)))) (fun j hj => .inl hj) (fun j hj => by
    rcases r3 j hj with h3 | h3
    · exact .inl h3
    · exact hnew j h3)⟩
set_option maxRecDepth 100000 in
set_option maxHeartbeats 1000000 in
theorem lendO_any (v : RV) (st : Int) (p : Nat) (x : OV) (a : List UInt8) (w : World) (h : v.In st p w) (hx : x.In w) (ha : x.o.names[0]? = some a) (hl : v.ws.length ≤ 12) :
    Calls Tryz.prog 163 #[.pointer (some ⟨p, 0, none⟩), .agg x.arr] w (RetO v st p w (lendR v.rm a)) := by
  have H0 := Lib.hid h
  have H := Lib.hid (h.below (belowA w (.cells x.arr 114)))
  have HX := Lib.hid (hx.below (belowA w (.cells x.arr 114)))
  clear h hx
  go_enter Tryz.func163, Tryz.ntmps163
  go_wp2_with fail
  with_reducible refine (inR_any v st p x a 1 _ H.out HX.out ha hl).mono ?_
  rintro _ w2 ⟨⟨q, rfl, hq⟩, hb⟩
  have H2 := Lib.hid (H.out.below hb)
  have HB := Lib.hid (below1 _ hb)
  have HQ := Lib.hid hq
  clear hb hq H HX
  obtain ⟨e, he⟩ : ∃ e, (inW v.rm a 1).1 = e := ⟨_, rfl⟩
  have HE := Lib.hid he
  rw [he]
  clear he
  by_cases h0 : e = 0
  · obtain ⟨g, hg, rfl⟩ := HQ.out (by rw [HE.out, h0])
    obtain ⟨y, hy, hyw⟩ := wig_nw (show (inW v.rm a 1).1 = 0 by rw [HE.out, h0])
    have HL : Hid (lendR v.rm a = (0, v.rm.setW (inW v.rm a 1).2.1 { (inW v.rm a 1).2.2 with state := 2 })) := Lib.hid (by unfold lendR; rw [if_neg (by rw [HE.out, h0]; simp)])
    have HY := Lib.hid hy
    have HYW := Lib.hid hyw
    have hrow := H2.out.rw
    rw [hg] at hrow
    have d10 : w2.cell? ⟨g, (inW v.rm a 1).2.1 * 13 + 10, none⟩ = some (.int .i64 y.w.state) := own_cell nw_len (by omega) hrow hy (j := 10) (by omega)
    have f10 : ∀ j, w2.frozen? ⟨g, j, none⟩ = false := fun j => hrow.frozenAt j
    have HG := Lib.hid hg
    clear hy hyw hrow hg
    generalize (inW v.rm a 1).2.1 = i at HY HL d10 ⊢
    generalize (inW v.rm a 1).2.2 = wg at HYW HL ⊢
    subst h0
    go_wp2_with fail
    go_ret
    obtain ⟨r1, r2⟩ := wig_end H0.out H2.out (Rs.below HB.out) (fun _ k => k) HG.out HY.out (z := { y with w := { y.w with state := 2 } }) (j := 10) (vs := [.int .i64 2]) (by simp) rfl (H2.out.hw y (List.mem_of_getElem? HY.out)) (fun k hk => .inl (.inr ⟨y, List.mem_of_getElem? HY.out, hk⟩))
    rw [HL.out]
    refine ⟨rfl, _, ?_, r1, r2⟩
    rw [rm_setW, ← HYW.out]
  · have HL : Hid (lendR v.rm a = (e, v.rm)) := Lib.hid (by unfold lendR; rw [if_pos (by rw [HE.out]; exact h0), HE.out])
    have h1 : (e != 0) = true := by simpa using h0
    go_wp2_with fail
    go_ret
    exact retO_no HL.out H2.out HB.out
end Go.Proofs.YtihhclhpjgeniaaGreatDoor
