/- Merged texts: Wn Wo Wp Wq Lw Wr Ws Wt Rc Re Rf Rg Rh -/
import Derived.Test.YtnlhllleipemlaaGreatDoorG7
import Derived.Test.YtnlhllleipemlaaGreatDoorRows
import Derived.ProofKit
import Derived.Deep.Slices
import Derived.Deep.Strs
import Derived.Lib.SmallJoins
import Derived.Laws.IdiomArrays
import Derived.ChangeMaps5
import Derived.Test.YtnlhllleipemlaaGreatDoorCards
import Derived.Lay
import Derived.LaidOnce
import Derived.LaidLaws
import Derived.Test.YtnlhllleipemlaaGreatDoorTie
import Derived.HandedShaped
import Derived.SevenTiedAt
import Derived.LaidHandle
import Derived.Lib.LaidTab
namespace Go.Proofs.YtnlhllleipemlaaGreatDoor
open Go.RowKit Go.Sort

/-- The entries of one place, and one more. -/
def nextL (c : List Ent) (x : Ent) (q : Int) : List Ent := ofP c q ++ if q = x.1 then [x] else []
def insQ (c : List Ent) (x : Ent) : Nat → List Ent
  | 0 => []
  | q + 1 => insQ c x q ++ nextL c x q
def insL (c : List Ent) (x : Ent) : List Ent := nextL c x 0 ++ nextL c x 1 ++ nextL c x 2
theorem insQ_three (c : List Ent) (x : Ent) : insQ c x 3 = insL c x := by
  show (([] ++ _) ++ _) ++ _ = _
  rw [List.nil_append]
  rfl
theorem insQ_le (c : List Ent) (x : Ent) (k : Nat) : (insQ c x k).length ≤ k * (c.length + 1) := by
  induction k with
  | zero => exact Nat.le_of_eq (by simp [insQ])
  | succ k ih =>
    have h1 := ofP_le c k
    show (insQ c x k ++ nextL c x k).length ≤ _
    unfold nextL
    rw [List.length_append, List.length_append, Nat.add_mul, Nat.one_mul]
    split <;> simp <;> omega
theorem nextL_yes (c : List Ent) (x : Ent) {q : Int} (h : q = x.1) : nextL c x q = ofP c q ++ [x] := by unfold nextL; rw [if_pos h]
theorem nextL_no (c : List Ent) (x : Ent) {q : Int} (h : q ≠ x.1) : nextL c x q = ofP c q := by unfold nextL; rw [if_neg h, List.append_nil]
section
variable {c d : List Ent} {x e : Ent}
theorem mem_nextL {q : Int} : e ∈ nextL c x q ↔ (e ∈ c ∧ e.1 = q) ∨ (q = x.1 ∧ e = x) := by
  unfold nextL
  rw [List.mem_append, mem_ofP]
  by_cases h : q = x.1 <;> simp [h]
theorem insL_mem (h : e ∈ insL c x) : e ∈ c ∨ e = x := by
  unfold insL at h
  simp only [List.mem_append, mem_nextL] at h
  rcases h with (h | h) | h <;> rcases h with h | h <;> simp [h]
theorem mem_insL (hc : Card c) (h0 : 0 ≤ x.1) (h2 : x.1 ≤ 2) : e ∈ insL c x ↔ e ∈ c ∨ e = x := by
  refine ⟨insL_mem, fun h => ?_⟩
  unfold insL
  simp only [List.mem_append, mem_nextL]
  rcases h with h | rfl
  · have := card_pl hc h
    simp [h]; omega
  · simp; omega
theorem ins_sorted (hc : Card c) (h : ∀ e ∈ c, e.1 = x.1 → e.2.1 < x.2.1) : (insL c x).Pairwise keyLt := by
  have one : ∀ q : Int, (nextL c x q).Pairwise keyLt := fun q => by
    unfold nextL
    rw [List.pairwise_append]
    refine ⟨hc.sorted.filter _, ?_, fun e he y hy => ?_⟩
    · split
      · exact List.pairwise_singleton _ _
      · exact List.Pairwise.nil
    · split at hy
      · rename_i hq
        rw [List.mem_singleton.1 hy]
        obtain ⟨x1, x2⟩ := mem_ofP.1 he
        exact .inr ⟨x2.trans hq, h e x1 (x2.trans hq)⟩
      · cases hy
  have pl : ∀ q : Int, ∀ e ∈ nextL c x q, e.1 = q := fun q e he => by
    rcases mem_nextL.1 he with ⟨_, h⟩ | ⟨h, rfl⟩
    · exact h
    · exact h.symm
  exact three_sorted (one 0) (one 1) (one 2) (pl 0) (pl 1) (pl 2)
theorem last_seq (hc : Card c) (hd : Card d) (hp : d.Perm (c ++ [x])) (ho : ordE d = ordE c ++ [x]) : ∀ e ∈ c, e.1 = x.1 → e.2.1 < x.2.1 := by
  intro e he h1
  have hed : e ∈ d := hp.mem_iff.2 (List.mem_append_left _ he)
  have hxd : x ∈ d := hp.mem_iff.2 (by simp)
  have hne : e ≠ x := fun h => by
    have hn := hp.nodup_iff.1 (card_nodup hd)
    rw [List.nodup_append] at hn
    exact hn.2.2 e he x (by simp) h
  rcases Int.lt_trichotomy e.2.1 x.2.1 with h | h | h
  · exact h
  · exact absurd (sorted_inj hd.sorted hed hxd h1 h) hne
  · exfalso
    have hs : sawE e x = true := sawE_iff.2 (by rw [← h1, hd.own hed]; omega)
    have ha := age_saw hd hed hxd hs
    have hw := ordE_pw hd
    rw [ho, List.pairwise_append] at hw
    have := hw.2.2 e ((mem_ordE hc).2 he) x (by simp)
    unfold aheadE at this
    omega
theorem ins_next (hc : Card c) (hd : Card d) (hp : d.Perm (c ++ [x])) (ho : ordE d = ordE c ++ [x]) : insL c x = d := by
  have hx : x ∈ d := hp.mem_iff.2 (by simp)
  have h3 := hd.txt x hx
  refine sorted_ext (ins_sorted hc (last_seq hc hd hp ho)) hd.sorted fun e => ?_
  rw [mem_insL hc h3.1 h3.2.1, hp.mem_iff]
  simp
end
theorem drop_list (s : ByteArray) (k : Nat) : (s.extract k s.size).data.toList = s.data.toList.drop k := by
  rw [ByteArray.data_extract, Array.toList_extract]
  simp only [List.extract]
  exact List.take_of_length_le (by rw [List.length_drop]; simp)
theorem take_list (s : ByteArray) (k : Nat) : (s.extract 0 k).data.toList = s.data.toList.take k := by
  rw [ByteArray.data_extract, Array.toList_extract]
  simp [List.extract]
/-- A line that begins a text: what the reading of the text's head finds. -/
theorem head_line {r : ByteArray} {h : Nat} {x : Ent} (hh : HeadR r h) (hx : oneLine x) (hp : lineL x <+: r.data.toList) : 0 < h ∧ bodyL x = (r.extract 0 (h - 1)).data.toList ∧ lineL x = r.data.toList.take h := by
  rcases hh with ⟨_, h1⟩ | ⟨u, v, h1, h2, rfl⟩
  · exact (line_none h1 hp).elim
  · have e1 := line_at hx h2 h1 hp
    refine ⟨by omega, ?_, ?_⟩
    · rw [take_list, h1, e1]; simp
    · rw [lineL, h1, e1]
      have : u ++ 10 :: v = (u ++ [10]) ++ v := by simp
      rw [this, List.take_left' (by simp)]
theorem head_le {r : ByteArray} {h : Nat} (hh : HeadR r h) : h ≤ r.size := by
  rcases hh with ⟨h1, _⟩ | ⟨u, v, h1, h2, rfl⟩
  · omega
  · have := congrArg List.length h1
    simp at this
    have e : r.data.size = r.size := rfl
    omega
/-- Where the reading stops. -/
theorem rd_max {s : ByteArray} {es : List Ent} {k h : Nat} (hc : Card es) (hk : k ≤ s.size) (he : writeL es = s.data.toList.take k) (hh : HeadR (s.extract k s.size) h)
    (hstop : h = 0 ∨ ∃ y ok, EntryR ((s.extract k s.size).extract 0 (h - 1)) y ok ∧ (ok = false ∨ ¬ Card (insL es y) ∨ writeL (insL es y) ≠ s.data.toList.take (k + h))) : MaxR s.data.toList es k := by
  refine max_of_stuck hc (by simpa using hk) he fun x d hd hp ho hl => ?_
  rw [← drop_list] at hl
  have hxd : x ∈ d := hp.mem_iff.2 (by simp)
  obtain ⟨h1, h2, h3⟩ := head_line hh (card_line hd hxd) hl
  rcases hstop with rfl | ⟨y, ok, hy, hs⟩
  · omega
  obtain ⟨rfl, rfl⟩ := hy.key x (card_small hd hxd) h2
  rw [ins_next hc hd hp ho] at hs
  rcases hs with hs | hs | hs
  · cases hs
  · exact hs hd
  · refine hs ?_
    unfold writeL at he ⊢
    rw [ho, List.flatMap_append, he, List.flatMap_singleton, h3, drop_list, List.take_add]
/-- What the reading of a text gives back. -/
def RetRead (s : ByteArray) (w : World) (r : Ending) (w' : World) : Prop :=
  ∃ es k A c, MaxR s.data.toList es k ∧ r = .returned (.tuple #[.slice A es.length c, .string (s.extract k s.size)]) ∧ w'.ownsRow w.heap.size 48 6 (.slice A es.length c) es.length (ents es) ∧ Below w.heap.size w w'
/-- What has been read so far. -/
structure Got (s : ByteArray) (es : List Ent) (k : Nat) : Prop where
  card : Card es
  le : k ≤ s.size
  eq : writeL es = s.data.toList.take k
theorem card_nil' : Card [] := ⟨by simp, (fun _ h => by cases h), trivial, fun _ h => by cases h⟩
theorem writeL_nil : writeL [] = [] := by
  have h := ordE_length card_nil'
  unfold writeL
  rw [List.eq_nil_of_length_eq_zero h]
  rfl
theorem Got.nil (s : ByteArray) : Got s [] 0 := ⟨card_nil', Nat.zero_le _, writeL_nil⟩
theorem RetRead.of {s : ByteArray} {w w' : World} {es : List Ent} {A : Option Addr} {n c k : Nat} {t : ByteArray} (h : MaxR s.data.toList es k) (ho : OwnX 48 6 w w' (.slice A n c) n (ents es)) (hn : n = es.length) (ht : t = s.extract k s.size) : RetRead s w (.returned (.tuple #[.slice A n c, .string t])) w' := by
  subst hn ht
  exact ⟨es, k, A, c, h, rfl, ho.row, ho.bel⟩
theorem card_short' {es : List Ent} {x : Ent} (hc : Card es) (hx : x.2.2.2.size ≤ 100000) : shortT (insL es x) := fun e he => by
  rcases insL_mem he with h | rfl
  · have := card_text hc h; omega
  · exact hx
theorem insL_le {es : List Ent} {x : Ent} (hc : Card es) : (insL es x).length ≤ 183 := by
  have h1 := insQ_le es x 3
  rw [insQ_three] at h1
  have h2 := hc.len
  omega
end Go.Proofs.YtnlhllleipemlaaGreatDoor

namespace Go.Proofs.YtnlhllleipemlaaGreatDoor
open Go.RowKit Go.Sort

theorem Held.of' {w0 w : World} {l : List Ent} {v : Value} {n : Nat} (h : OwnX 48 6 w0 w v n (ents l)) (hn : n = l.length) : Held w0 l w v := by
  subst hn
  obtain ⟨A, c, rfl, _⟩ := h.form
  exact ⟨A, c, rfl, h⟩
theorem own_cap {w : World} {b sz n : Nat} {e : TypeId} {xs : List Value} {A : Option Addr} {c : Nat} (h : w.ownsRow b e sz (.slice A n c) n xs) : n ≤ c := by
  obtain ⟨_, ⟨h1, h2⟩ | ⟨g, cap, cur, h1, _, _, h2, _⟩⟩ := h
  · omega
  · injection h1 with _ _ h3
    omega
theorem join_take {s t rest : ByteArray} {h : Nat} (ht : t = s.extract 0 t.size) (hr : s.extract t.size s.size = rest) : (t ++ rest.extract 0 h).data.toList = s.data.toList.take (t.size + h) := by
  have h1 : t.data.toList = s.data.toList.take t.size := by
    conv => lhs; rw [ht]
    exact take_list _ _
  rw [show ∀ a b : ByteArray, (a ++ b).data.toList = a.data.toList ++ b.data.toList from fun a b => by simp, take_list, ← hr, drop_list, h1, List.take_add]
abbrev box6 (x : Ent) : Array Value := #[.int .i64 x.1, .int .i64 x.2.1, .int .i64 x.2.2.1.1, .int .i64 x.2.2.1.2.1, .int .i64 x.2.2.1.2.2, .string x.2.2.2]
set_option maxRecDepth 100000 in
set_option maxHeartbeats 8000000 in
theorem refRead_any (s : ByteArray) (w : World) (hs : s.size ≤ 100000) (hT : Tab w) : Calls Tryz.prog 9 #[.string s] w (RetRead s w) := by
  have HT := Lib.hid hT
  clear hT
  go_enter Tryz.func9, Tryz.ntmps9
  go_wp2_with fail
  go_loopw [4, 5, 6, 7, 8, 9, 10, 11, 12, 13] (fun cv tv _ _ _ _ _ _ _ _ wr => ∃ (es : List Ent) (k : Nat) (t : ByteArray), tv = .string t ∧ t.size = k ∧ t = s.extract 0 k ∧ Got s es k ∧ Held w es wr cv) (fun _ tv _ _ _ _ _ _ _ _ _ => s.size - (match tv with | .string t => t.size | _ => 0))
  case atStart => exact ⟨[], 0, ⟨#[]⟩, rfl, rfl, (by simp; rfl), Got.nil s, Held.nil (Below.refl _ _)⟩
  case round =>
    obtain ⟨es, k, t, rfl, rfl, ht, hg, A, c, rfl, hown⟩ := hrel
    have hk := hg.le
    have HG := Lib.hid hg
    have HO := Lib.hid hown
    have HTT := Lib.hid ht
    clear hg hown ht
    obtain ⟨rest, hrest⟩ : ∃ r, s.extract t.size s.size = r := ⟨_, rfl⟩
    have hrs : rest.size = s.size - t.size := by rw [← hrest, ByteArray.size_extract]; omega
    have HR := Lib.hid hrest
    go_wp2_with fail
    clear hrest
    with_reducible refine (head_any rest _ (by omega)).mono ?_
    rintro _ _ ⟨h, hh, rfl, rfl⟩
    have HH := Lib.hid hh
    have hle := head_le hh
    clear hh
    by_cases h0 : h = 0
    · subst h0
      have HM := Lib.hid (rd_max HG.out.card hk HG.out.eq (HR.out ▸ HH.out) (.inl rfl))
      go_wp2_with fail
      go_ret2
      exact RetRead.of HM.out HO.out rfl HR.out.symm
    have g0 : ((h : Int) == 0) = false := by rw [beq_eq_false_iff_ne]; omega
    obtain ⟨line, hline⟩ : ∃ r, rest.extract 0 (h - 1) = r := ⟨_, rfl⟩
    have hls : line.size ≤ rest.size := by rw [← hline, ByteArray.size_extract]; omega
    have HLN := Lib.hid hline
    go_wp2_with fail
    clear hline
    with_reducible refine (entry_any line _ (by omega)).mono ?_
    rintro _ w2 ⟨⟨x, ok, hx, rfl⟩, hb2⟩
    have HO2 := Lib.hid (HO.out.on hb2)
    have hxs := hx.sz
    have HX := Lib.hid hx
    have HB2 := Lib.hid (below_trans' HO.out.bel hb2)
    clear hx hb2 HO
    cases ok with
    | false =>
      have HM := Lib.hid (rd_max HG.out.card hk HG.out.eq (HR.out ▸ HH.out) (.inr ⟨x, false, by rw [HR.out, HLN.out]; exact HX.out, .inl rfl⟩))
      go_wp2_with fail
      go_ret2
      exact RetRead.of HM.out (HO2.out.on (belowA _ _)) rfl HR.out.symm
    | true =>
    have HP := Lib.hid (HX.out.pl rfl)
    go_wp2_with fail
    have HBX := Lib.hid (Box.new w2 (box6 x) 48)
    have HO3 := Lib.hid (HO2.out.on (belowA w2 (.cells (box6 x) 48)))
    clear HO2 HB2
    generalize w2.alloc (.cells (box6 x) 48) = w3 at HBX HO3 ⊢
    generalize w2.heap.size = B at HBX ⊢
    have hlen : es.length ≤ 60 := HG.out.card.len
    obtain ⟨n, hn⟩ : ∃ n, es.length = n := ⟨_, rfl⟩
    rw [hn] at HO3 hlen ⊢
    go_loopw [10, 11] (fun v i wi => ∃ q : Nat, q ≤ 3 ∧ i = .int .i64 q ∧ Held w3 (insQ es x q) wi v) (fun _ i _ => 3 - (intOf i).toNat)
    case atStart => exact ⟨0, by omega, rfl, Held.nil (Below.refl _ _)⟩
    case round =>
      obtain ⟨q, hq, rfl, A1, c1, rfl, hown⟩ := hrel
      have HOWN := Lib.hid hown
      clear hown
      by_cases hlt : q < 3
      · have hle := insQ_le es x q
        have hle2 : q * (es.length + 1) ≤ 3 * (es.length + 1) := Nat.mul_le_mul_right _ (by omega)
        have o1 := ofP_le es q
        have HMS := Lib.hid (show insQ es x (q + 1) = insQ es x q ++ nextL es x q from rfl)
        go_wp2_with fail
        with_reducible refine (of_any A n c es q _ ((Reads.of_own HO3.out.row).on HOWN.out.bel) (by omega)).mono ?_
        rintro _ w4 ⟨B3, d3, rfl, hr3, hb3⟩
        have HO4 := Lib.hid (HOWN.out.on hb3)
        have HR3 := Lib.hid (Reads.of_own hr3)
        clear hr3 hb3
        have hln : (insQ es x q).length + (ofP es q).length ≤ 1000000000 := by omega
        have hln1 : (insQ es x q).length + (ofP es q).length + 1 ≤ 1000000000 := by omega
        by_cases hqx : (q : Int) = x.1
        · have HMY := Lib.hid (nextL_yes es x hqx)
          have g : ((q : Int) == x.1) = true := by rw [beq_iff_eq]; exact hqx
          clear hqx
          go_wp2_with (at_builtin; first | (refine wpList_pushO rfl _ _ rfl w3 _ A1 _ c1 _ B3 _ d3 (ofP es q) rfl HO4.out rfl HR3.out hln ?_; intro A4 c4 w5 ho4; have HO5 := Lib.hid ho4; have BB := HBX.out.below ho4.bel; have x0 := BB.at 0; have x1 := BB.at 1; have x2 := BB.at 2; have x3 := BB.at 3; have x4 := BB.at 4; have x5 := BB.at 5; clear ho4 BB) | (refine wpList_pushO rfl _ _ rfl w3 _ A4 _ c4 _ (some ⟨w5.heap.size, 0, none⟩) 1 1 [x] rfl (HO5.out.on (belowA _ _)) rfl (reads_new w5 (ents [x]) 48 6 1 rfl) hln1 ?_; intro A5 c5 w6 ho6; have HO6 := Lib.hid ho6; clear ho6))
          go_roundw
          case rel =>
            refine ⟨q + 1, by omega, by go_num, ?_⟩
            have h7 := HO6.out
            rw [← ents_append, ← ents_append] at h7
            rw [HMS.out, HMY.out, ← List.append_assoc]
            exact Held.of' h7 (by simp; omega)
          case measure => simp [intOf]; omega
        · have HMN := Lib.hid (nextL_no es x hqx)
          have g : ((q : Int) == x.1) = false := by rw [beq_eq_false_iff_ne]; exact hqx
          clear hqx
          go_wp2_with (at_builtin; refine wpList_pushO rfl _ _ rfl w3 _ A1 _ c1 _ B3 _ d3 (ofP es q) rfl HO4.out rfl HR3.out hln ?_; intro A4 c4 w4 ho4; have HO4 := Lib.hid ho4; have BB := HBX.out.below ho4.bel; have x0 := BB.at 0; clear ho4 BB)
          go_roundw
          case rel =>
            refine ⟨q + 1, by omega, by go_num, ?_⟩
            rw [HMS.out, HMN.out]
            exact Held.of HO4.out rfl
          case measure => simp [intOf]; omega
      · have HE : Hid (insQ es x q = insL es x) := Lib.hid (by rw [show q = 3 by omega, insQ_three])
        have ho := HOWN.out
        rw [HE.out] at ho ⊢
        have HO := Lib.hid ho
        have hll := insL_le (x := x) HG.out.card
        have HSH := Lib.hid (card_short' (x := x) HG.out.card (by omega))
        have HTW := Lib.hid (tab_below HT.out (below_trans' HO3.out.bel HO.out.bel))
        clear ho HOWN HE
        go_wp2_with fail
        with_reducible refine (refWrite_any A1 _ c1 (insL es x) _ (Reads.of_own HO.out.row) (by omega) (own_cap HO.out.row) HSH.out HTW.out).mono ?_
        rintro _ w5 ⟨rfl, hb5⟩
        have HO5 := Lib.hid (HO.out.on hb5)
        clear hb5
        by_cases hv : val (insL es x) = 0
        · have g := neBf hv
          have HC := Lib.hid (val_zero.1 hv)
          have HV := Lib.hid (show wrX (insL es x) = writeL (insL es x) by unfold wrX; rw [if_pos hv])
          have HJ := Lib.hid (join_take (h := h) HTT.out HR.out)
          clear hv
          go_wp2_with fail
          · rename_i he
            have he2 : writeL (insL es x) ≠ s.data.toList.take (t.size + h) := by
              rw [ByteArray.toList_eq, HJ.out, HV.out] at he
              simpa using he
            have HM := Lib.hid (rd_max HG.out.card hk HG.out.eq (HR.out ▸ HH.out) (.inr ⟨x, true, by rw [HR.out, HLN.out]; exact HX.out, .inr (.inr he2)⟩))
            go_ret2
            exact RetRead.of HM.out (HO3.out.on HO5.out.bel) hn.symm HR.out.symm
          · rename_i he
            have he2 : writeL (insL es x) = s.data.toList.take (t.size + h) := by
              rw [ByteArray.toList_eq, HJ.out, HV.out] at he
              simpa using he
            have hsz : t.size + h ≤ s.size := by omega
            have hl : s.data.toList.length = s.size := by simp
            have ht2 : (⟨(wrX (insL es x)).toArray⟩ : ByteArray) = s.extract 0 (t.size + h) := by
              apply ByteArray.ext
              apply Array.toList_inj.1
              rw [take_list, List.toList_toArray, HV.out, he2]
            have hz2 : (⟨(wrX (insL es x)).toArray⟩ : ByteArray).size = t.size + h := by
              rw [ht2, ByteArray.size_extract]; omega
            refine ⟨⟨insL es x, _, _, rfl, hz2, ht2, ⟨HC.out, hsz, he2⟩, Held.up ⟨_, _, rfl, HO5.out⟩ HO3.out.bel⟩, ?_⟩
            show s.size - (⟨(wrX (insL es x)).toArray⟩ : ByteArray).size < s.size - t.size
            rw [hz2]
            omega
        · have g := neB hv
          have HM := Lib.hid (rd_max HG.out.card hk HG.out.eq (HR.out ▸ HH.out) (.inr ⟨x, true, by rw [HR.out, HLN.out]; exact HX.out, .inr (.inl fun h => hv (val_zero.2 h))⟩))
          clear hv
          go_wp2_with fail
          go_ret2
          exact RetRead.of HM.out (HO3.out.on HO5.out.bel) hn.symm HR.out.symm
end Go.Proofs.YtnlhllleipemlaaGreatDoor

namespace Go.Proofs.YtnlhllleipemlaaGreatDoor
open Go.RowKit Go.Sort

/-- A text cut at its first line's end. -/
theorem cut_line (d : List UInt8) : ((10 : UInt8) ∉ d ∧ Lib.cut d [10] = (d, [], false)) ∨ ∃ u r, d = u ++ 10 :: r ∧ (10 : UInt8) ∉ u ∧ Lib.cut d [10] = (u, r, true) := by
  by_cases h : (10 : UInt8) ∈ d
  · obtain ⟨u, r, h1, h2⟩ := List.eq_append_cons_of_mem h
    refine .inr ⟨u, r, h1, h2, ?_⟩
    have hi := index_byte (r := r) h2
    subst h1
    unfold Lib.cut
    rw [hi, if_pos (by omega)]
    simp
  · refine .inl ⟨h, ?_⟩
    unfold Lib.cut
    rw [index_none h, if_neg (by omega)]
theorem rd_stop {s : ByteArray} {es : List Ent} {k : Nat} (hg : Got s es k)
    (hstop : (10 : UInt8) ∉ s.data.toList.drop k ∨ ∃ u r, s.data.toList.drop k = u ++ 10 :: r ∧ (10 : UInt8) ∉ u ∧ ∀ x d, Card d → d.Perm (es ++ [x]) → bodyL x = u → writeL d ≠ s.data.toList.take (k + (u.length + 1))) : MaxR s.data.toList es k := by
  refine max_of_stuck hg.card (by simpa using hg.le) hg.eq fun x d hd hp ho hl => ?_
  have hxd : x ∈ d := hp.mem_iff.2 (by simp)
  rcases hstop with h | ⟨u, r, h1, h2, h3⟩
  · exact line_none h hl
  · have e1 := line_at (card_line hd hxd) h2 h1 hl
    refine h3 x d hd hp e1 ?_
    have := hg.eq
    unfold writeL at this ⊢
    rw [ho, List.flatMap_append, this, List.flatMap_singleton, List.take_add, h1, lineL, e1]
    have e2 : u ++ 10 :: r = (u ++ [10]) ++ r := by simp
    rw [e2, List.take_left' (by simp)]
/-- A full card. -/
theorem rd_full {s : ByteArray} {es : List Ent} {k : Nat} (hg : Got s es k) (h : 60 ≤ es.length) : MaxR s.data.toList es k :=
  max_of_stuck hg.card (by simpa using hg.le) hg.eq fun x d hd hp ho hl => by
    have h1 := hp.length_eq
    have h2 := hd.len
    rw [List.length_append, List.length_singleton] at h1
    omega
theorem rd_none {s rest : ByteArray} {es : List Ent} {k : Nat} (hg : Got s es k) (hr : s.extract k s.size = rest) (h : (10 : UInt8) ∉ rest.data.toList) : MaxR s.data.toList es k :=
  rd_stop hg (.inl (by rwa [← hr, drop_list] at h))
theorem rd_err {s rest line : ByteArray} {es : List Ent} {k : Nat} {r : List UInt8} (hg : Got s es k) (hr : s.extract k s.size = rest) (h1 : rest.data.toList = line.data.toList ++ 10 :: r) (h2 : (10 : UInt8) ∉ line.data.toList)
    (h : ∀ x, smallE x → bodyL x ≠ line.data.toList) : MaxR s.data.toList es k :=
  rd_stop hg (.inr ⟨_, r, by rwa [← hr, drop_list] at h1, h2, fun x d hd hp hb _ => h x (card_small hd (hp.mem_iff.2 (by simp))) hb⟩)
theorem rd_next {s rest line : ByteArray} {es l : List Ent} {k : Nat} {r : List UInt8} {x : Ent} (hg : Got s es k) (hr : s.extract k s.size = rest) (h1 : rest.data.toList = line.data.toList ++ 10 :: r) (h2 : (10 : UInt8) ∉ line.data.toList)
    (hx : bodyL x = line.data.toList) (hp : l.Perm (es ++ [x])) (hs : l.Pairwise fun x y => ¬ keyLt y x) (h : Card l → writeL l ≠ s.data.toList.take (k + line.size + 1)) : MaxR s.data.toList es k :=
  rd_stop hg (.inr ⟨_, r, by rwa [← hr, drop_list] at h1, h2, fun y d hd hq hb hw => by
    obtain rfl : y = x := bodyL_inj (hb.trans hx.symm)
    obtain rfl := sort_next hd hq hp hs
    exact h hd (by rw [hw, Nat.add_assoc]; congr 1)⟩)
theorem line_room {s rest line : ByteArray} {k : Nat} {r : List UInt8} (hk : k ≤ s.size) (hr : s.extract k s.size = rest) (h1 : rest.data.toList = line.data.toList ++ 10 :: r) : k + line.size + 1 ≤ s.size := by
  have := congrArg List.length h1
  rw [← hr, drop_list] at this
  simp at this
  have e1 : s.data.size = s.size := rfl
  have e2 : line.data.size = line.size := rfl
  omega
theorem body_text {x : Ent} {line : ByteArray} (h : bodyL x = line.data.toList) : x.2.2.2.size ≤ line.size := by
  have h1 := congrArg List.length h
  rw [← headL_five, List.length_append] at h1
  simp at h1
  have e1 : x.2.2.2.data.size = x.2.2.2.size := rfl
  have e2 : line.data.size = line.size := rfl
  omega
theorem short_perm {es l : List Ent} {x : Ent} (hc : Card es) (hx : x.2.2.2.size ≤ 100000) (hp : l.Perm (es ++ [x])) : shortT l := fun e he => by
  rcases List.mem_append.1 (hp.mem_iff.1 he) with h | h
  · have := card_text hc h; omega
  · rw [List.mem_singleton.1 h]; exact hx
end Go.Proofs.YtnlhllleipemlaaGreatDoor

namespace Go.Proofs.YtnlhllleipemlaaGreatDoor
open Go.RowKit Go.Sort

set_option maxRecDepth 100000 in
set_option maxHeartbeats 8000000 in
theorem read8_any (s : ByteArray) (w : World) (hs : s.size ≤ 10000) (hm : MW w) : Calls Tryz.prog 8 #[.string s] w (RetRead s w) := by
  have HMW := Lib.hid hm
  clear hm
  go_enter Tryz.func8, Tryz.ntmps8
  go_wp2_with fail
  go_loopw [2, 4, 5, 6, 7, 8, 9, 10, 11] (fun cv tv _ _ _ _ _ _ _ wr => ∃ (es : List Ent) (k : Nat) (t : ByteArray), tv = .string t ∧ t.size = k ∧ t = s.extract 0 k ∧ Got s es k ∧ Held w es wr cv) (fun _ tv _ _ _ _ _ _ _ _ => s.size - (match tv with | .string t => t.size | _ => 0))
  case atStart => exact ⟨[], 0, ⟨#[]⟩, rfl, rfl, (by simp; rfl), Got.nil s, Held.nil (Below.refl _ _)⟩
  case round =>
    obtain ⟨es, k, t, rfl, rfl, ht, hg, A, c, rfl, hown⟩ := hrel
    have hk := hg.le
    have hlen : es.length ≤ 60 := hg.card.len
    have HG := Lib.hid hg
    have HTT := Lib.hid ht
    obtain ⟨n, hn⟩ : ∃ n, es.length = n := ⟨_, rfl⟩
    rw [hn] at hown hlen ⊢
    have HN := Lib.hid hn
    have HO := Lib.hid hown
    clear hg hown ht hn
    obtain ⟨rest, hrest⟩ : ∃ r, s.extract t.size s.size = r := ⟨_, rfl⟩
    have hrs : rest.size = s.size - t.size := by rw [← hrest, ByteArray.size_extract]; omega
    have HR := Lib.hid hrest
    by_cases h60 : n < 60
    case neg =>
      have HM := Lib.hid (rd_full HG.out (by have := HN.out; omega))
      clear hrest
      go_wp2_with fail
      go_quiet (fail)
      go_wp2_with fail
      go_ret2
      exact RetRead.of HM.out (HO.out.on (below_drewN' (Below.refl _ _) _)) HN.out.symm rfl
    have hMw := HMW.out.below HO.out.bel
    obtain ⟨m, hm1⟩ := hMw.mx
    have HM1 := Lib.hid hm1
    clear hm1 hMw
    go_wp2_with fail
    clear hrest
    with_reducible refine (Tryz.strings_Cut rest ⟨#[10]⟩ m _ (by omega) HM1.out).mono ?_
    rintro _ w1 ⟨rfl, nd, hw1⟩
    have HB1 : Hid (Below wr.heap.size wr w1) := Lib.hid (by rw [hw1]; exact below_drewN' (Below.refl _ _) _)
    clear hw1 HM1
    rcases cut_line rest.data.toList with ⟨hno, hc⟩ | ⟨u, r, hc1, hc2, hc⟩
    · rw [show (⟨#[10]⟩ : ByteArray).data.toList = [10] from rfl, hc]
      have HM := Lib.hid (rd_none HG.out HR.out hno)
      clear hc hno
      go_wp2_with fail
      go_quiet (fail)
      go_wp2_with fail
      go_ret2
      exact RetRead.of HM.out (HO.out.on (below_drewN' HB1.out _)) HN.out.symm rfl
    · obtain ⟨line, hline⟩ : ∃ l : ByteArray, (⟨u.toArray⟩ : ByteArray) = l := ⟨_, rfl⟩
      have hu : u = line.data.toList := by rw [← hline]
      rw [show (⟨#[10]⟩ : ByteArray).data.toList = [10] from rfl, hc]
      dsimp only
      rw [hline]
      rw [hu] at hc1 hc2
      have HC1 := Lib.hid hc1
      have HC2 := Lib.hid hc2
      have hroom := line_room hk HR.out hc1
      clear hc hc1 hc2 hline hu
      go_wp2_with fail
      with_reducible refine (read_any line _ (by omega) (HMW.out.below (below_trans' HO.out.bel HB1.out))).mono ?_
      rintro _ w2 ⟨hb2, ⟨x, hfx, hx, rfl⟩ | ⟨v, hv, hnx, rfl⟩⟩
      · have HX := Lib.hid hx
        have HB3 := Lib.hid (below_trans' (below_trans' HB1.out hb2) (belowAA w2 (.cells (box6 x) 48) (.cells #[.string ⟨#[]⟩] 56)))
        have HBX := Lib.hid ((Box.new w2 (box6 x) 48).alloc (.cells #[.string ⟨#[]⟩] 56))
        have hts := body_text hx
        clear hx hb2 HB1 hfx
        go_wp2_with fail
        generalize (w2.alloc (.cells (box6 x) 48)).alloc (.cells #[.string ⟨#[]⟩] 56) = w3 at HB3 HBX ⊢
        generalize w2.heap.size = B at HBX ⊢
        with_reducible refine (as_nil _ _).mono ?_
        rintro _ w4 ⟨rfl, hw4⟩
        subst hw4
        have HO3 := Lib.hid (HO.out.on HB3.out)
        have HMW3 := Lib.hid (HMW.out.below HO3.out.bel)
        have HLD := Lib.hid (Reads.of_own HO3.out.row)
        go_wp2_with fail
        refine wp_region_hu [0, 2] [1, 3, 4, 5] (fun W => Box W B (box6 x)) mixed (by kernel_rfl) HBX.out.drew ?_
        iterate 2
          refine canonH_step (v := ?_) rfl (by rfl) ?_ ?_
          rotate_left
          · intro W hSw
            have x0 := hSw.at 0
            have x1 := hSw.at 1
            have x2 := hSw.at 2
            have x3 := hSw.at 3
            have x4 := hSw.at 4
            have x5 := hSw.at 5
            go_simp <;> with_reducible rfl
          simp only [List.getElem_toArray, List.getElem_cons_zero, List.getElem_cons_succ, Act.put, List.setIfInBounds_toArray, List.set_cons_succ, List.set_cons_zero]
        refine canonH_nil ?_
        have hbs : B < w4.drew.heap.size := HBX.out.1
        have hq : w4.drew.heap.size = w4.heap.size := rfl
        generalize hqq : w4.heap.size = q at hq
        have HQ := Lib.hid hqq
        have hBq : B < q := by omega
        clear hqq
        have hwq : w4.heap.size ≤ q := by have := HQ.out; omega
        have HDR := Lib.hid (below_drewN' (Below.refl _ _) 1 : Below w4.heap.size w4 w4.drew)
        refine tailA_two (t := 1) (t' := 3) (ts1 := [3, 4, 5]) (ts2 := [1, 4, 5]) (by kernel_rfl) rfl rfl rfl rfl ?_ ?_
        focus
          go_wp2_with fail
          with_reducible refine (clone_any A n c es _ HLD.out.drew (by omega)).mono ?_
          rintro _ w6 ⟨C, d, rfl, hr6, hb6⟩
          have HR6 := Lib.hid hr6
          have HB6 := Lib.hid hb6
          clear hr6 hb6
          go_wp2_with fail
          refine ⟨HBX.out.drew.below HB6.out, ?_⟩
          refine tailA_one (t := 3) (ts' := [4, 5]) (by kernel_rfl) rfl rfl ?_
          go_wp2_with fail
          refine gen_at (fun W => Box W B (box6 x) ∧ W.ownsRow q 48 6 (.slice C n d) n (ents es) ∧ Reads W W.heap.size 6 (some ⟨w6.heap.size, 0, none⟩) 1 (ents [x]) ∧ Below w4.heap.size w4 W ∧ q ≤ W.heap.size) ⟨(HBX.out.drew.below HB6.out).alloc _, row_on (row_mono HR6.out (Nat.le_of_eq HQ.out.symm)) (belowA _ _), reads_new w6 (ents [x]) 48 6 1 rfl, below_trans' (below_trans' HDR.out HB6.out) (belowA _ _), by have := HB6.out.size; have := HQ.out; rw [World.size_alloc]; omega⟩ ?_
          generalize w6.heap.size = bN
          clear HR6 HB6 w6
          rintro w7 ⟨hc7, hr7, he7, hb7, hq7⟩
          have HC7 := Lib.hid hc7
          have HR7 := Lib.hid hr7
          have HE7 := Lib.hid he7
          have HB7 := Lib.hid hb7
          clear hc7 hr7 he7 hb7
          refine ⟨HC7.out, ?_⟩
          refine tailA_one (t := 4) (ts' := [5]) (by kernel_rfl) rfl rfl ?_
          refine wpList_pushXn rfl _ _ 23 48 rfl Tryz.underlying23 info53b rfl (Nat.succ_pos _) (by decide) q _ C n d (ents es) _ 1 1 (ents [x]) rfl HR7.out hq7 rfl HE7.out (fun h => by cases h) (ents_one _) (by omega) ?_
          intro A' c' w8 hr8 hg8 _
          rw [← ents_append] at hr8
          have HR8 := Lib.hid hr8
          have HB8 := Lib.hid (HB7.out.grown hg8 HB7.out.size fun k hk => Nat.le_trans hwq (HR7.out.lt k hk).1)
          clear hr8
          have HC9 := Lib.hid (HC7.out.grown hg8 fun j hj e => by have := (HR7.out.lt j hj).1; omega)
          clear hg8
          go_wp2_with fail
          refine ⟨HC9.out, ?_⟩
          refine tailA_last (t := 5) (by kernel_rfl) rfl ?_
          go_wp2_with fail
          refine NoPanic.normal ?_
          go_wp2_with fail
        rotate_left
        focus
          go_wp2_with fail
          have hrn := reads_new w4.drew (ents [x]) 48 6 1 rfl
          rw [hq] at hrn
          refine gen_at (fun W => Box W B (box6 x) ∧ Reads W W.heap.size 6 (some ⟨q, 0, none⟩) 1 (ents [x]) ∧ Below w4.drew.heap.size w4.drew W) ⟨HBX.out.drew.alloc _, hrn, belowA _ _⟩ ?_
          clear hrn
          rintro w6 ⟨hc6, he6, hb6⟩
          have HC6 := Lib.hid hc6
          have HE6 := Lib.hid he6
          have HB6 := Lib.hid hb6
          have HL6 := Lib.hid (HLD.out.drew.on hb6)
          clear hc6 he6 hb6
          refine ⟨HC6.out, ?_⟩
          refine tailA_one (t := 1) (ts' := [4, 5]) (by kernel_rfl) rfl rfl ?_
          go_wp2_with fail
          with_reducible refine (clone_any A n c es _ HL6.out (by omega)).mono ?_
          rintro _ w7 ⟨C, d, rfl, hr7, hb7⟩
          have HC7 := Lib.hid (HC6.out.below hb7)
          have HR7 := Lib.hid (row_mono hr7 (show q ≤ w6.heap.size by have := HB6.out.size; omega))
          have HE7 := Lib.hid (HE6.out.on hb7)
          have HB7 := Lib.hid (below_trans' (below_trans' HDR.out HB6.out) hb7)
          have hq7 : q ≤ w7.heap.size := by have := HB6.out.size; have := hb7.size; omega
          clear hr7 hb7
          go_wp2_with fail
          refine ⟨HC7.out, ?_⟩
          refine tailA_one (t := 4) (ts' := [5]) (by kernel_rfl) rfl rfl ?_
          refine wpList_pushXn rfl _ _ 23 48 rfl Tryz.underlying23 info53b rfl (Nat.succ_pos _) (by decide) q _ C n d (ents es) _ 1 1 (ents [x]) rfl HR7.out hq7 rfl HE7.out (fun h => by cases h) (ents_one _) (by omega) ?_
          intro A' c' w8 hr8 hg8 _
          rw [← ents_append] at hr8
          have HR8 := Lib.hid hr8
          have HB8 := Lib.hid (HB7.out.grown hg8 HB7.out.size fun k hk => Nat.le_trans hwq (HR7.out.lt k hk).1)
          clear hr8
          have HC9 := Lib.hid (HC7.out.grown hg8 fun j hj e => by have := (HR7.out.lt j hj).1; omega)
          clear hg8
          go_wp2_with fail
          refine ⟨HC9.out, ?_⟩
          refine tailA_last (t := 5) (by kernel_rfl) rfl ?_
          go_wp2_with fail
          refine NoPanic.normal ?_
          go_wp2_with fail
        all_goals
          with_reducible refine (sort_any (bl := q) A' (n + 1) c' (es ++ [x]) _ HR8.out (by omega)).mono ?_
          rintro _ w9 ⟨rfl, l, hp, hsort, hr9, hg9⟩
          have HR9 := Lib.hid hr9
          have HB9 := Lib.hid (HB8.out.grown hg9 HB8.out.size fun k hk => Nat.le_trans hwq (HR8.out.lt k hk).1)
          have hll : l.length = n + 1 := by have h1 := hp.length_eq; have h2 := HN.out; simp at h1; omega
          have HSH := Lib.hid (short_perm HG.out.card (by omega) hp)
          have HMW9 := Lib.hid (HMW3.out.below HB9.out)
          have HP := Lib.hid hp
          have HSO := Lib.hid hsort
          clear hp hsort hr9 hg9 HC9 HC7 HR7 HE7 HB7
          go_wp2_with fail
          have HRL := Lib.hid (Reads.of_own HR9.out)
          obtain ⟨N1, hN1⟩ : ∃ N : Nat, N = t.size + line.size := ⟨_, rfl⟩
          obtain ⟨N, hN⟩ : ∃ N : Nat, N = N1 + 1 := ⟨_, rfl⟩
          have VK1 : Hid (IntKind.i64.wrap ((t.size : Int) + (line.size : Int)) = (N1 : Int)) := Lib.hid ((IntWalk.i64_in _ (by omega)).trans (by omega))
          have VK2 : Hid (IntKind.i64.wrap ((N1 : Int) + 1) = (N : Int)) := Lib.hid ((IntWalk.i64_in _ (by omega)).trans (by omega))
          have hNs : N ≤ s.size := by omega
          have HNN : Hid (N = t.size + line.size + 1) := Lib.hid (by omega)
          clear hN hN1
          by_cases hv : val l = 0
          focus
            have HC := Lib.hid (val_zero.1 hv)
            clear hv
            refine wp_region_hw [0, 1, 2, 3, 4, 5, 6, 7, 8, 9, 10, 11, 12, 13, 14] [15] (fun W => Below w9.heap.size w9 W) mixed (by kernel_rfl) (Rl := fun u v => Below u.heap.size u v) (fun w => Below.refl _ _) (fun _ _ _ h1 h2 => below_trans' h1 h2) (fun W W' h hg => below_trans' h hg) (below_drewN' (Below.refl _ _) 1) ?_
            refine canonR_read (v := ?_) rfl (by rfl) ?_ ?_
            rotate_left
            · intro W hSw
              go_simp <;> with_reducible rfl
            simp only [List.getElem_toArray, List.getElem_cons_zero, Act.put, List.setIfInBounds_toArray, List.set_cons_succ, List.set_cons_zero]
            refine canonR_call (v := .int .i64 0) (f := 17) (args := #[.slice A' (n + 1) c']) rfl (by rfl) ?_ ?_ ?_
            · intro W hSw
              go_simp
            · intro W hSw
              have := validate_any A' (n + 1) c' l W (HRL.out.on hSw) (by omega) HSH.out
              rw [val_zero.2 HC.out] at this
              exact this
            simp only [List.getElem_toArray, List.getElem_cons_zero, List.getElem_cons_succ, Act.put, List.setIfInBounds_toArray, List.set_cons_succ, List.set_cons_zero]
            iterate 3
              refine canonR_read (v := ?_) rfl (by rfl) ?_ ?_
              rotate_left
              · intro W hSw
                go_simp <;> with_reducible rfl
              simp only [List.getElem_toArray, List.getElem_cons_zero, List.getElem_cons_succ, Act.put, List.setIfInBounds_toArray, List.set_cons_succ, List.set_cons_zero]
            refine canonR_call (v := .string ⟨(writeL l).toArray⟩) (f := 26) (args := #[.slice A' (n + 1) c']) rfl (by rfl) ?_ ?_ ?_
            · intro W hSw
              go_simp
            · intro W hSw
              exact write_any A' (n + 1) c' l W (HRL.out.on hSw) HC.out (tab_below HMW9.out.tab hSw)
            simp only [List.getElem_toArray, List.getElem_cons_zero, List.getElem_cons_succ, Act.put, List.setIfInBounds_toArray, List.set_cons_succ, List.set_cons_zero]
            iterate 5
              refine canonR_read (v := ?_) rfl (by rfl) ?_ ?_
              rotate_left
              · intro W hSw
                go_simp <;> with_reducible rfl
              simp only [List.getElem_toArray, List.getElem_cons_zero, List.getElem_cons_succ, Act.put, List.setIfInBounds_toArray, List.set_cons_succ, List.set_cons_zero]
            refine canonR_read (v := .int .i64 N1) rfl (by rfl) ?_ ?_
            · intro W hSw
              go_simp
              rw [VK1.out]
            simp only [List.getElem_toArray, List.getElem_cons_zero, List.getElem_cons_succ, Act.put, List.setIfInBounds_toArray, List.set_cons_succ, List.set_cons_zero]
            refine canonR_read (v := .int .i64 N) rfl (by rfl) ?_ ?_
            · intro W hSw
              go_simp
              rw [VK2.out]
            simp only [List.getElem_toArray, List.getElem_cons_zero, List.getElem_cons_succ, Act.put, List.setIfInBounds_toArray, List.set_cons_succ, List.set_cons_zero]
            obtain ⟨cutx, hcut⟩ : ∃ b, s.extract 0 N = b := ⟨_, rfl⟩
            have HCUT := Lib.hid hcut
            clear hcut
            refine canonR_read (v := .string cutx) rfl (by rfl) ?_ ?_
            · intro W hSw
              go_simp
              exact HCUT.out
            simp only [List.getElem_toArray, List.getElem_cons_zero, List.getElem_cons_succ, Act.put, List.setIfInBounds_toArray, List.set_cons_succ, List.set_cons_zero]
            obtain ⟨bb, hbb⟩ : ∃ b, (!(writeL l == cutx.toList)) = b := ⟨_, rfl⟩
            have HBB := Lib.hid hbb
            clear hbb
            refine canonR_read (v := .bool bb) rfl (by rfl) ?_ ?_
            · intro W hSw
              rw [← HBB.out]
              clear hNs hlen hrs hk hs h60 hroom hll hts hq7 hwq hBq hq hbs
              go_simp
            simp only [List.getElem_toArray, List.getElem_cons_zero, List.getElem_cons_succ, Act.put, List.setIfInBounds_toArray, List.set_cons_succ, List.set_cons_zero]
            refine canonR_nil ?_
            refine tailR_last (t := 15) (by kernel_rfl) rfl ?_
            intro W8 hb8
            have HW8 := Lib.hid (below_trans' (below_drewN' HB9.out 1) hb8)
            have HR10 := Lib.hid (row_on HR9.out (below_trans' (below_drewN' (Below.refl _ _) 1) hb8))
            clear hb8
            have HCT : Hid (cutx.toList = s.data.toList.take (t.size + line.size + 1)) := Lib.hid (by rw [ByteArray.toList_eq, ← HCUT.out, take_list, HNN.out])
            cases bb
            · have he : writeL l = s.data.toList.take N := by
                have h1 := HBB.out
                rw [HCT.out, ← HNN.out] at h1
                simpa using h1
              have hz : (s.extract 0 N).size = N := by rw [ByteArray.size_extract]; omega
              have HZ := Lib.hid hz
              have HGN : Hid (Got s l N) := Lib.hid ⟨HC.out, hNs, he⟩
              have HHN : Hid (Held w l W8 (.slice A' (n + 1) c')) := Lib.hid (Held.of' ⟨row_mono HR10.out (Nat.le_trans HO3.out.bel.size hwq), below_trans' HO3.out.bel HW8.out⟩ hll.symm)
              have hNt : t.size < N := by have := HNN.out; omega
              have vk1 := VK1.out
              have vk2 := VK2.out
              clear he hz HR9 HR8 HSO HP
              go_wp2_with fail
              refine NoPanic.normal ?_
              go_wp2_with fail
              go_quiet (fail)
              go_wp2_with fail
              refine ⟨⟨l, N, _, rfl, HZ.out, rfl, HGN.out, HHN.out.on (below_drewN' (Below.refl _ _) _)⟩, ?_⟩
              show s.size - (s.extract 0 N).size < s.size - t.size
              rw [HZ.out]
              omega
            · have HM := Lib.hid (rd_next HG.out HR.out HC1.out HC2.out HX.out HP.out HSO.out fun _ => by
                have h1 := HBB.out
                rw [HCT.out] at h1
                simpa using h1)
              go_wp2_with fail
              refine NoPanic.normal ?_
              go_wp2_with fail
              go_quiet (fail)
              go_wp2_with fail
              go_ret2
              exact RetRead.of HM.out (HO3.out.on (below_drewN' HW8.out _)) HN.out.symm rfl
          focus
            have g := neB hv
            refine wp_region_hw [0, 1, 2, 3, 4, 5, 6, 7, 8, 9, 10, 11, 12, 13, 14] [15] (fun W => Below w9.heap.size w9 W) mixed (by kernel_rfl) (Rl := fun u v => Below u.heap.size u v) (fun w => Below.refl _ _) (fun _ _ _ h1 h2 => below_trans' h1 h2) (fun W W' h hg => below_trans' h hg) (below_drewN' (Below.refl _ _) 1) ?_
            refine canonR_read (v := ?_) rfl (by rfl) ?_ ?_
            rotate_left
            · intro W hSw
              go_simp <;> with_reducible rfl
            simp only [List.getElem_toArray, List.getElem_cons_zero, Act.put, List.setIfInBounds_toArray, List.set_cons_succ, List.set_cons_zero]
            refine canonR_call (v := .int .i64 (val l)) (f := 17) (args := #[.slice A' (n + 1) c']) rfl (by rfl) ?_ ?_ ?_
            · intro W hSw
              go_simp
            · intro W hSw
              exact validate_any A' (n + 1) c' l W (HRL.out.on hSw) (by omega) HSH.out
            simp only [List.getElem_toArray, List.getElem_cons_zero, List.getElem_cons_succ, Act.put, List.setIfInBounds_toArray, List.set_cons_succ, List.set_cons_zero]
            iterate 2
              refine canonR_read (v := ?_) rfl (by rfl) ?_ ?_
              rotate_left
              · intro W hSw
                go_simp <;> with_reducible rfl
              simp only [List.getElem_toArray, List.getElem_cons_zero, List.getElem_cons_succ, Act.put, List.setIfInBounds_toArray, List.set_cons_succ, List.set_cons_zero]
            iterate 11
              refine canonR_skip rfl (by rfl) ?_
              simp only [List.getElem_toArray, List.getElem_cons_zero, List.getElem_cons_succ, Act.put, List.setIfInBounds_toArray, List.set_cons_succ, List.set_cons_zero]
            refine canonR_nil ?_
            refine tailR_last (t := 15) (by kernel_rfl) rfl ?_
            intro W8 hb8
            go_wp2_with fail
            refine NoPanic.normal ?_
            go_wp2_with fail
            have HM := Lib.hid (rd_next HG.out HR.out HC1.out HC2.out HX.out HP.out HSO.out fun h => absurd (val_zero.2 h) hv)
            have HW8 := Lib.hid (below_trans' (below_drewN' HB9.out 1) hb8)
            clear hb8 hv g
            go_quiet (fail)
            go_wp2_with fail
            go_ret2
            exact RetRead.of HM.out (HO3.out.on (below_drewN' HW8.out _)) HN.out.symm rfl
      · have HM := Lib.hid (rd_err HG.out HR.out HC1.out HC2.out hnx)
        have HV := Lib.hid (hv.on (belowAA w2 (.cells (box6 entZ) 48) (.cells #[.string ⟨#[]⟩] 56)))
        have HB2 := Lib.hid (below_trans' (below_trans' HB1.out hb2) (belowAA w2 (.cells (box6 entZ) 48) (.cells #[.string ⟨#[]⟩] 56)))
        have HT : Hid (Tgt ((w2.alloc (.cells (box6 entZ) 48)).alloc (.cells #[.string ⟨#[]⟩] 56)) (w2.heap.size + 1)) := Lib.hid ⟨⟨_, (Box.new2 w2 (box6 entZ) #[.string ⟨#[]⟩] 48 56).at 0⟩, by have := fz_new (w2.alloc (.cells (box6 entZ) 48)) #[.string ⟨#[]⟩] 56 0; rwa [World.size_alloc] at this⟩
        have hle2 : wr.heap.size ≤ w2.heap.size := (below_trans' HB1.out hb2).size
        clear hnx hv hb2
        go_wp2_with fail
        generalize (w2.alloc (.cells (box6 entZ) 48)).alloc (.cells #[.string ⟨#[]⟩] 56) = w3 at HV HB2 HT ⊢
        with_reducible refine (As_err line v _ _ (HMW.out.below (below_trans' HO.out.bel HB2.out)).ty HT.out HV.out).mono ?_
        rintro _ w4 ⟨rfl, hb4⟩
        have HB4 := Lib.hid (HB2.out.trans (hb4.mono (show wr.heap.size ≤ w2.heap.size + 1 by omega)))
        clear hb4
        go_wp2_with fail
        go_quiet (fail)
        go_wp2_with fail
        go_ret2
        exact RetRead.of HM.out (HO.out.on (below_drewN' HB4.out _)) HN.out.symm rfl
end Go.Proofs.YtnlhllleipemlaaGreatDoor

namespace Go.Proofs.YtnlhllleipemlaaGreatDoor
open Go.RowKit Go.Sort

def longE (es : List Ent) : Bool := decide (100 < es.length ∨ ∃ e ∈ es, 200 < e.2.2.2.size)
theorem long_no {es : List Ent} (h : longE es = false) : es.length ≤ 100 ∧ shortT es := by
  unfold longE at h
  rw [decide_eq_false_iff_not, not_or] at h
  exact ⟨by omega, fun e he => by
    by_cases hs : e.2.2.2.size ≤ 200
    · omega
    · exact (h.2 ⟨e, he, by omega⟩).elim⟩
theorem long_len {es : List Ent} (h : 100 < es.length) : longE es = true := by unfold longE; rw [decide_eq_true_eq]; exact .inl h
theorem long_at {es : List Ent} {k : Nat} {e : Ent} (hk : es[k]? = some e) (h : 200 < e.2.2.2.size) : longE es = true := by
  unfold longE; rw [decide_eq_true_eq]; exact .inr ⟨e, List.mem_of_getElem? hk, h⟩
theorem long_not {es : List Ent} (h : es.length ≤ 100) (h2 : ∀ (k : Nat) (e : Ent), es[k]? = some e → e.2.2.2.size ≤ 200) : longE es = false := by
  unfold longE
  rw [decide_eq_false_iff_not, not_or]
  refine ⟨by omega, ?_⟩
  rintro ⟨e, he, hs⟩
  obtain ⟨k, hk⟩ := List.mem_iff_getElem?.1 he
  have := h2 k e hk
  omega
set_option maxRecDepth 100000 in
theorem long_any (A : Option Addr) (n c : Nat) (es : List Ent) (w : World) (hl : Reads w w.heap.size 6 A n (ents es)) :
    Calls Tryz.prog 11 #[.slice A n c] w fun r w' => r = .returned (.bool (longE es)) ∧ Below w.heap.size w w' := by
  have hlen := hl.1
  rw [ents_length] at hlen
  have l1 : n ≤ es.length := by omega
  have l2 : es.length ≤ n := by omega
  have HL := Lib.hid hl
  clear hl hlen
  go_enter Tryz.func11, Tryz.ntmps11
  by_cases hb : 100 < n
  · have HB := Lib.hid (long_len (es := es) (by omega))
    go_wp2_with fail
    go_ret
    exact ⟨ret_bool HB.out.symm, Below.refl _ _⟩
  have hn : n ≤ 100 := by omega
  clear hb
  go_wp2_with fail
  go_loopw [3] (fun i wr => ∃ k : Nat, k ≤ n ∧ i = .int .i64 k ∧ (∀ j e, j < k → es[j]? = some e → e.2.2.2.size ≤ 200) ∧ Below w.heap.size w wr) (fun i _ => n - (intOf i).toNat)
  case atStart => exact ⟨0, by omega, rfl, fun j e hj => by omega, Below.refl _ _⟩
  case round =>
    obtain ⟨k, hk, rfl, hno, hbw⟩ := hrel
    have HNO := Lib.hid hno
    have HBW := Lib.hid hbw
    clear hno hbw
    by_cases hlt : k < n
    · obtain ⟨ad, x, e1, hbk, hx, d0, d1, d2, d3, d4, d5⟩ := eat (HL.out.on HBW.out) (k := k) (by omega)
      have X := fun w => ix22 (n := n) (c := c) e1 hlt w
      have HX := Lib.hid hx
      clear hx e1 d0 d1 d2 d3 d4
      by_cases hs : 200 < x.2.2.2.size
      · have HB := Lib.hid (long_at HX.out hs)
        go_wp2_with fail
        go_ret
        exact ⟨ret_bool HB.out.symm, HBW.out⟩
      · have hs2 : x.2.2.2.size ≤ 200 := by omega
        clear hs
        go_wp2_with fail
        go_roundw
        case rel => exact ⟨k + 1, by omega, by go_num, fun j e hj he => by
          rcases Nat.lt_or_ge j k with h1 | h1
          · exact HNO.out j e h1 he
          · obtain rfl : j = k := by omega
            obtain rfl : x = e := Option.some.inj (HX.out.symm.trans he)
            exact hs2, HBW.out⟩
        case measure => simp [intOf]; omega
    · have HB : Hid (longE es = false) := Lib.hid (long_not (by omega) fun j e he => HNO.out j e (by have := (List.getElem?_eq_some_iff.1 he).1; omega) he)
      go_wp2_with fail
      go_ret
      exact ⟨ret_bool HB.out.symm, HBW.out⟩
theorem info53b' : (Tryz.prog.info? 48).map (fun i => (i.zero, i.size, i.bytes)) = some (some (.agg #[.int .i64 0, .int .i64 0, .int .i64 0, .int .i64 0, .int .i64 0, .string ⟨#[]⟩]), 6, 56) := by kernel_rfl
theorem ents_set (es : List Ent) {k : Nat} {x : Ent} (hx : es[k]? = some x) (z : Int) : (ents es).set (k * 6 + 1) (.int .i64 z) = ents (es.set k (x.1, z, x.2.2)) := by
  have hk : k < es.length := (List.getElem?_eq_some_iff.1 hx).1
  have hx' : es[k] = x := (List.getElem?_eq_some_iff.1 hx).2
  apply List.ext_getElem?
  intro j
  rw [List.getElem?_set]
  rcases Nat.lt_or_ge j (es.length * 6) with hj | hj
  · have hq : j / 6 < es.length := by omega
    have hjj : j / 6 * 6 + j % 6 = j := by omega
    have e1 := ents_get (es := es) hq (i := j % 6) (by omega)
    have e2 := ents_get (es := es.set k (x.1, z, x.2.2)) (k := j / 6) (by simpa using hq) (i := j % 6) (by omega)
    rw [hjj] at e1 e2
    rw [e1, e2, List.getElem_set]
    by_cases h1 : k = j / 6
    · subst h1
      simp only [if_true]
      rw [hx']
      by_cases h2 : j / 6 * 6 + 1 = j
      · have h3 : j % 6 = 1 := by omega
        rw [if_pos h2, if_pos (by rw [ents_length]; omega), h3]
        rfl
      · rw [if_neg h2]
        have h3 : j % 6 ≠ 1 := by omega
        have h4 : j % 6 < 6 := by omega
        revert h3 h4
        generalize j % 6 = i
        intro h3 h4
        match i, h3, h4 with
        | 0, _, _ => rfl
        | 2, _, _ => rfl
        | 3, _, _ => rfl
        | 4, _, _ => rfl
        | 5, _, _ => rfl
    · rw [if_neg h1, if_neg (by omega)]
  · rw [if_neg (by omega), List.getElem?_eq_none (by rw [ents_length]; exact hj), List.getElem?_eq_none (by rw [ents_length, List.length_set]; exact hj)]
end Go.Proofs.YtnlhllleipemlaaGreatDoor

namespace Go.Proofs.YtnlhllleipemlaaGreatDoor
open Go.RowKit Go.Sort

set_option maxRecDepth 100000 in
/-- The reference's Same: whether two lists are equal. -/
theorem same_any (A B : Option Addr) (n m c d : Nat) (es fs : List Ent) (w : World) (hl : Reads w w.heap.size 6 A n (ents es)) (hm : Reads w w.heap.size 6 B m (ents fs)) (_hn : n ≤ 1000000) :
    Calls Tryz.prog 10 #[.slice A n c, .slice B m d] w fun r w' => r = .returned (.bool (decide (es = fs))) ∧ Below w.heap.size w w' := by
  have hlen := hl.1
  rw [ents_length] at hlen
  have hlen2 := hm.1
  rw [ents_length] at hlen2
  have l1 : n ≤ es.length := by omega
  have l2 : es.length ≤ n := by omega
  have l3 : m ≤ fs.length := by omega
  have l4 : fs.length ≤ m := by omega
  have HL := Lib.hid hl
  have HM := Lib.hid hm
  clear hl hm hlen hlen2
  go_enter Tryz.func10, Tryz.ntmps10
  by_cases hne : n = m
  case neg =>
    have HF := Lib.hid (show decide (es = fs) = false by rw [decide_eq_false_iff_not]; intro h; rw [h] at l1 l2; omega)
    have g : ((n : Int) != (m : Int)) = true := by simp; omega
    clear hne
    go_wp2_with fail
    go_ret
    exact ⟨ret_bool HF.out.symm, Below.refl _ _⟩
  have g : ((n : Int) != (m : Int)) = false := by simp [hne]
  have m1 : n ≤ m := by omega
  have m2 : m ≤ n := by omega
  clear hne
  go_wp2_with fail
  go_loopw [5] (fun i wr => ∃ k : Nat, k ≤ n ∧ i = .int .i64 k ∧ es.take k = fs.take k ∧ Below w.heap.size w wr) (fun i _ => n - (intOf i).toNat)
  case atStart => exact ⟨0, by omega, rfl, by simp, Below.refl _ _⟩
  case round =>
    obtain ⟨k, hk, rfl, hno, hbw⟩ := hrel
    have HNO := Lib.hid hno
    have HBW := Lib.hid hbw
    clear hno hbw
    by_cases hlt : k < n
    · obtain ⟨ad, x, e1, hbk, hx, d0, d1, d2, d3, d4, d5⟩ := eat (HL.out.on HBW.out) (k := k) (by omega)
      obtain ⟨ad', y, e1', hbk', hy, q0, q1, q2, q3, q4, q5⟩ := eat (HM.out.on HBW.out) (k := k) (by omega)
      have X := fun w => ix22 (n := n) (c := c) e1 hlt w
      have Y := fun w => ix22 (n := m) (c := d) e1' (show k < m by omega) w
      have g1 := eqg53 .neq
      have g2 := neq53 x y
      have hkm : k < m := by omega
      have HX := Lib.hid hx
      have HY := Lib.hid hy
      clear hx hy e1 e1'
      by_cases hxy : x = y
      · have HT : Hid (es.take (k + 1) = fs.take (k + 1)) := Lib.hid (by rw [take_succ_of HX.out, take_succ_of HY.out, HNO.out, hxy])
        rw [eqN_iff.2 hxy] at g2
        clear hxy
        go_wp2_with fail
        go_quiet (fail)
        go_wp2_with fail
        go_roundw
        case rel => exact ⟨k + 1, by omega, by go_num, HT.out, below_drewN' HBW.out _⟩
        case measure => simp [intOf]; omega
      · have HF : Hid (decide (es = fs) = false) := Lib.hid (by
          rw [decide_eq_false_iff_not]
          intro h
          rw [h] at HX
          exact hxy (Option.some.inj (HX.out.symm.trans HY.out)))
        rw [eqN_not.2 hxy] at g2
        clear hxy
        go_wp2_with fail
        go_quiet (fail)
        go_wp2_with fail
        go_ret
        exact ⟨ret_bool HF.out.symm, below_drewN' HBW.out _⟩
    · have HF : Hid (decide (es = fs) = true) := Lib.hid (by
        rw [decide_eq_true_eq]
        have := HNO.out
        rwa [List.take_of_length_le (by omega), List.take_of_length_le (by omega)] at this)
      go_wp2_with fail
      go_ret
      exact ⟨ret_bool HF.out.symm, HBW.out⟩
theorem same_refl (A B : Option Addr) (n m c d : Nat) (es : List Ent) (w : World) (hl : Reads w w.heap.size 6 A n (ents es)) (hm : Reads w w.heap.size 6 B m (ents es)) (hn : n ≤ 1000000) :
    Calls Tryz.prog 10 #[.slice A n c, .slice B m d] w fun r w' => r = .returned (.bool true) ∧ Below w.heap.size w w' := by
  have := same_any A B n m c d es es w hl hm hn
  rwa [decide_eq_true rfl] at this
end Go.Proofs.YtnlhllleipemlaaGreatDoor

namespace Go.Proofs.YtnlhllleipemlaaGreatDoor
open Go.RowKit Go.Sort

set_option maxRecDepth 100000 in
set_option maxHeartbeats 4000000 in
theorem lawReads_any (s : ByteArray) (w : World) (hm : MW w) (_ : s.size ≤ maxLen) : Calls Tryz.prog 3 #[.string s] w fun r w' => r = .returned (.bool true) ∧ Below w.heap.size w w' := by
  have HM := Lib.hid hm
  clear hm
  go_enter Tryz.func3, Tryz.ntmps3
  by_cases h6 : s.size ≤ 6000
  case neg =>
    go_wp2_with fail
    with_reducible refine (known_any _).mono ?_
    rintro _ w2 ⟨rfl, hb2⟩
    go_wp2_with fail
    go_ret
    exact ⟨rfl, hb2⟩
  go_wp2_with fail
  with_reducible refine (read8_any s _ (by omega) HM.out).mono ?_
  rintro _ w2 ⟨es, k, A, c, hR, rfl, hr2, hb2⟩
  have HR := Lib.hid hR
  have HO2 := Lib.hid hr2
  have HB2 := Lib.hid hb2
  clear hR hr2 hb2
  go_wp2_with fail
  with_reducible refine (refRead_any s _ (by omega) (HM.out.below HB2.out).tab).mono ?_
  rintro _ w3 ⟨fs, k', A', c', hR', rfl, hr3, hb3⟩
  obtain ⟨rfl, rfl⟩ := HR.out.unique hR'
  have HO3 := Lib.hid (row_on HO2.out hb3)
  have HP3 := Lib.hid hr3
  have HB3 := Lib.hid (below_trans' HB2.out hb3)
  have hlen : es.length ≤ 60 := HR.out.card.len
  obtain ⟨rest, hrest⟩ : ∃ r, s.extract k s.size = r := ⟨_, rfl⟩
  rw [hrest]
  clear hR' hr3 hb3 HO2 HB2 hrest
  go_wp2_with fail
  with_reducible refine (same_refl A A' es.length es.length c c' es _ (Reads.of_own HO3.out) (Reads.of_own HP3.out) (by omega)).mono ?_
  rintro _ w4 ⟨rfl, hb4⟩
  have HB4 := Lib.hid (below_trans' HB3.out hb4)
  clear hb4
  go_wp2_with fail
  with_reducible refine (known_any _).mono ?_
  rintro _ w5 ⟨rfl, hb5⟩
  have HB5 := Lib.hid (below_trans' HB4.out hb5)
  clear hb5
  go_wp2_with fail
  go_ret
  exact ⟨rfl, HB5.out⟩
end Go.Proofs.YtnlhllleipemlaaGreatDoor

namespace Go.Proofs.YtnlhllleipemlaaGreatDoor
open Go.RowKit Go.Sort

/-- What the head of each law asks of a list of entries. -/
structure InE (w : World) (A : Option Addr) (n c : Nat) (es : List Ent) : Prop where
  rd : Reads w w.heap.size 6 A n (ents es)
  cap : n ≤ c
theorem InE.on {w w' : World} {A : Option Addr} {n c : Nat} {es : List Ent} (h : InE w A n c es) (hb : Below w.heap.size w w') : InE w' A n c es := ⟨h.rd.on hb, h.cap⟩
theorem InE.small {w : World} {A : Option Addr} {n c : Nat} {es : List Ent} (h : InE w A n c es) (hl : longE es = false) : n ≤ 1000000 := by
  have := h.rd.1
  rw [ents_length] at this
  have := (long_no hl).1
  omega
/-- A card's text is short. -/
theorem nums_len {e : Ent} (h : smallE e) : ∀ k, (headL e k).length ≤ 3 * k
  | 0 => Nat.le_refl _
  | k + 1 => by
    have ih := nums_len h k
    cases hz : (nums e)[k]? with
    | some z =>
      obtain ⟨h0, h1⟩ := nums_small h hz
      have := itoa_short h0 h1
      rw [headL_succ hz, List.length_append, List.length_append, List.length_singleton]
      omega
    | none =>
      have hk : (nums e).length ≤ k := List.getElem?_eq_none_iff.1 hz
      have : headL e (k + 1) = headL e k := by unfold headL; rw [List.take_of_length_le (by omega), List.take_of_length_le hk]
      rw [this]
      omega
theorem line_len {es : List Ent} (h : Card es) {e : Ent} (he : e ∈ es) : (lineL e).length ≤ 76 := by
  have h1 := nums_len (card_small h he) 5
  have h2 := card_text h he
  unfold lineL
  rw [← headL_five, List.length_append, List.length_append, ← ByteArray.toList_eq]
  have : e.2.2.2.toList.length = e.2.2.2.size := by rw [ByteArray.toList_eq]; simp
  simp
  omega
theorem lines_len : ∀ {l : List Ent}, (∀ e ∈ l, (lineL e).length ≤ 76) → (l.flatMap lineL).length ≤ 76 * l.length
  | [], _ => Nat.le_refl _
  | e :: l, h => by
    have h1 := h e (by simp)
    have h2 := lines_len (l := l) fun x hx => h x (by simp [hx])
    rw [List.flatMap_cons, List.length_append, List.length_cons]
    omega
theorem writeL_len {es : List Ent} (h : Card es) : (writeL es).length ≤ 4560 := by
  have h1 := lines_len (l := ordE es) fun e he => line_len h ((mem_ordE h).1 he)
  rw [ordE_length h] at h1
  have := h.len
  unfold writeL
  omega
theorem max_full {es : List Ent} (h : Card es) : MaxR (writeL es) es (writeL es).length :=
  ⟨h, Nat.le_refl _, by rw [List.take_length], fun _ _ _ hk _ => hk⟩
theorem read_full {t : ByteArray} {es fs : List Ent} {k : Nat} (h : MaxR t.data.toList fs k) (hc : Card es) (ht : t.data.toList = writeL es) : fs = es ∧ t.extract k t.size = (⟨#[]⟩ : ByteArray) := by
  rw [ht] at h
  obtain ⟨h1, h2⟩ := h.unique (max_full hc)
  refine ⟨h1, ByteArray.ext (Array.toList_inj.1 ?_)⟩
  rw [drop_list, ht, h2]
  simp
set_option maxRecDepth 100000 in
set_option maxHeartbeats 4000000 in
theorem lawWrites_any (A : Option Addr) (n c : Nat) (es : List Ent) (w : World) (hm : MW w) (hl : InE w A n c es) :
    Calls Tryz.prog 4 #[.slice A n c] w fun r w' => r = .returned (.bool true) ∧ Below w.heap.size w w' := by
  have HL := Lib.hid hl
  have HM := Lib.hid hm
  clear hl hm
  go_enter Tryz.func4, Tryz.ntmps4
  go_wp2_with fail
  with_reducible refine (long_any A n c es _ HL.out.rd).mono ?_
  rintro _ w1 ⟨rfl, hb1⟩
  have HW1 := Lib.hid hb1
  clear hb1
  cases hlong : longE es
  case true =>
    go_wp2_with fail
    with_reducible refine (known_any _).mono ?_
    rintro _ w2 ⟨rfl, hb2⟩
    go_wp2_with fail
    go_ret
    exact ⟨rfl, below_trans' HW1.out hb2⟩
  have HN := Lib.hid (HL.out.small hlong)
  have HS := Lib.hid (long_no hlong).2
  clear hlong
  go_wp2_with fail
  with_reducible refine (Write_any A n c es _ (HL.out.on HW1.out).rd HN.out HS.out (HM.out.below HW1.out).tab).mono ?_
  rintro _ w2 ⟨rfl, hb2⟩
  have HW2 := Lib.hid (below_trans' HW1.out hb2)
  clear hb2 HW1
  go_wp2_with fail
  with_reducible refine (refWrite_any A n c es _ (HL.out.on HW2.out).rd HN.out HL.out.cap HS.out (HM.out.below HW2.out).tab).mono ?_
  rintro _ w3 ⟨rfl, hb3⟩
  have HW3 := Lib.hid (below_trans' HW2.out hb3)
  clear hb3 HW2
  obtain ⟨t, ht⟩ : ∃ t : ByteArray, (⟨(wrX es).toArray⟩ : ByteArray) = t := ⟨_, rfl⟩
  obtain ⟨v, hvv⟩ : ∃ v, val es = v := ⟨_, rfl⟩
  rw [ht, hvv]
  have HV := Lib.hid hvv
  have HT0 := Lib.hid ht
  clear ht hvv
  by_cases hv : v = 0
  case neg =>
    have g := neB hv
    clear hv
    go_wp2_with fail
    with_reducible refine (known_any _).mono ?_
    rintro _ w4 ⟨rfl, hb4⟩
    go_wp2_with fail
    go_ret
    exact ⟨rfl, below_trans' HW3.out hb4⟩
  subst hv
  have HC := Lib.hid (val_zero.1 HV.out)
  have HT : Hid (t.data.toList = writeL es) := Lib.hid (by rw [← HT0.out]; show wrX es = _; unfold wrX; rw [if_pos HV.out])
  have hts : t.size ≤ 4560 := by
    have h1 := writeL_len HC.out
    rw [← HT.out] at h1
    simpa using h1
  go_wp2_with fail
  with_reducible refine (read8_any t _ (by omega) (HM.out.below HW3.out)).mono ?_
  rintro _ w4 ⟨fs, k, B, d, hR, rfl, hr4, hb4⟩
  obtain ⟨rfl, hrest⟩ := read_full hR HC.out HT.out
  rw [hrest]
  have HR4 := Lib.hid hr4
  have HW4 := Lib.hid (below_trans' HW3.out hb4)
  clear hR hrest hr4 hb4
  go_wp2_with fail
  with_reducible refine (same_refl B A fs.length n d c fs _ (Reads.of_own HR4.out) (HL.out.on HW4.out).rd (by have := HC.out.len; omega)).mono ?_
  rintro _ w5 ⟨rfl, hb5⟩
  have HW5 := Lib.hid (below_trans' HW4.out hb5)
  clear hb5
  go_wp2_with fail
  with_reducible refine (known_any _).mono ?_
  rintro _ w6 ⟨rfl, hb6⟩
  have HW6 := Lib.hid (below_trans' HW5.out hb6)
  clear hb6
  go_wp2_with fail
  go_ret
  exact ⟨rfl, HW6.out⟩
end Go.Proofs.YtnlhllleipemlaaGreatDoor

namespace Go.Proofs.YtnlhllleipemlaaGreatDoor
open Go.ChangeShapes Go.WideShapes Go.ChangeAt Go.RowKit Go.Joins Go.Deep Go.Sort

theorem own : ownKnob Tryz.prog.godebug = none := by kernel_rfl
theorem laidOut : laidOutB Tryz.prog = true := by kernel_rfl
theorem cells3 : Tryz.prog.cellsOf 3 = 1 := by kernel_rfl
theorem cells9 : Tryz.prog.cellsOf 9 = 1 := by kernel_rfl
theorem cells35 : Tryz.prog.cellsOf 46 = 3 := by kernel_rfl
theorem cells53 : Tryz.prog.cellsOf 48 = 6 := by kernel_rfl
/-- A list of elements out of a family. -/
theorem list_of_fam {α : Type} (P : Nat → α → Prop) : ∀ n, (∀ i, i < n → ∃ x, P i x) → ∃ l : List α, l.length = n ∧ ∀ i x, l[i]? = some x → P i x
  | 0, _ => ⟨[], rfl, fun i x h => by simp at h⟩
  | n + 1, h => by
    obtain ⟨l, hl, hp⟩ := list_of_fam P n (fun i hi => h i (by omega))
    obtain ⟨x, hx⟩ := h n (by omega)
    refine ⟨l ++ [x], by simp [hl], fun i y hy => ?_⟩
    rcases Nat.lt_or_ge i n with hi | hi
    · rw [List.getElem?_append_left (by omega)] at hy
      exact hp i y hy
    · have hlt : i < (l ++ [x]).length := (List.getElem?_eq_some_iff.1 hy).1
      simp only [List.length_append, hl, List.length_cons, List.length_nil] at hlt
      obtain rfl : i = n := by omega
      rw [List.getElem?_append_right (by omega), hl] at hy
      simp at hy
      exact hy ▸ hx
/-- An int's bounds. -/
def Bd (n : Int) : Prop := -9223372036854775808 ≤ n ∧ n ≤ 9223372036854775807
theorem bd_of_wf {n : Int} (h : (Lit.int .i64 n).wf = true) : Bd n := by
  simp [Lit.wf, IntKind.min, IntKind.max, IntKind.signed, IntKind.bits] at h
  exact ⟨by omega, by omega⟩
/-- An entry's bounds. -/
def EBd (e : Ent) : Prop := (Bd e.1 ∧ Bd e.2.1) ∧ Bd e.2.2.1.1 ∧ Bd e.2.2.1.2.1 ∧ Bd e.2.2.1.2.2

section
variable {H : Type} {enc : TypeId × Value → H} {W : World} {b0 : Nat} {v : Value} {d : DataW H} {p : List MemPlace}
set_option maxRecDepth 100000 in
theorem open_num (hv : Value.okWide Tryz.prog W .any b0 3 v) (h : DataW.Trod enc Tryz.prog W 0 (fun _ => true) true 3 v d p) : ∃ n, v = .int .i64 n ∧ Bd n := by
  obtain ⟨n, rfl, _, _, wn⟩ := open_int Tryz.underlying3 hv h
  exact ⟨n, rfl, bd_of_wf wn⟩
set_option maxRecDepth 100000 in
theorem open_txt (hv : Value.okWide Tryz.prog W .any b0 9 v) (h : DataW.Trod enc Tryz.prog W 0 (fun _ => true) true 9 v d p) : ∃ s : ByteArray, v = .string s ∧ s.size ≤ maxLen := by
  obtain ⟨s, rfl, _, _, hs⟩ := Go.ChangeMaps.open_string Tryz.underlying9 hv h
  exact ⟨s, rfl, hs⟩
set_option maxRecDepth 100000 in
theorem okWide_arr3 (hv : Value.okWide Tryz.prog W .any b0 46 v) : ∃ xs : Array Value, v = .agg xs ∧ xs.size = 3 := by
  simp only [Value.okWide, Tryz.underlying46] at hv
  obtain ⟨cs, h1, h2, _⟩ := hv
  exact ⟨cs, h1, by rw [h2, cells35]⟩
set_option maxRecDepth 100000 in
theorem open_clk (hv : Value.okWide Tryz.prog W .any b0 46 v) (h : DataW.Trod enc Tryz.prog W 0 (fun _ => true) true 46 v d p) :
    ∃ k : Int × Int × Int, v = .agg #[.int .i64 k.1, .int .i64 k.2.1, .int .i64 k.2.2] ∧ Bd k.1 ∧ Bd k.2.1 ∧ Bd k.2.2 := by
  obtain ⟨xs, rfl, hx⟩ := okWide_arr3 hv
  obtain ⟨c0, c1, c2, rfl⟩ := array3 hx
  obtain ⟨fuel, hf⟩ := h
  obtain ⟨y0, y1, y2, n, _, t0, t1, t2⟩ := trod_array3 Tryz.underlying46 cells3 hf
  obtain ⟨x0, e0, _, w0⟩ := DataW.trod_int Tryz.underlying3 t0
  obtain ⟨x1, e1, _, w1⟩ := DataW.trod_int Tryz.underlying3 t1
  obtain ⟨x2, e2, _, w2⟩ := DataW.trod_int Tryz.underlying3 t2
  simp at e0 e1 e2
  subst e0 e1 e2
  exact ⟨(x0, x1, x2), rfl, bd_of_wf w0, bd_of_wf w1, bd_of_wf w2⟩

/-- The cells of an entry at an address. -/
def AtE (W : World) (a : Addr) (e : Ent) : Prop := ∀ i u, (ecells e)[i]? = some u → W.cell? (a.add i) = some u
set_option maxRecDepth 100000 in
theorem one_ent {n : Nat} {a : Addr} {cs : List Value} {y : DataW H × List MemPlace} (hcs : W.cells? 0 a 6 = some cs) (ht : DataW.trod enc Tryz.prog W 0 (fun _ => true) true n 48 cs = some y) :
    ∃ e : Ent, AtE W a e ∧ EBd e := by
  obtain ⟨_, hlen, hat⟩ := World.cells?_some hcs
  obtain ⟨xs, k, _, _, _, hxl, hg⟩ := DataW.trod_struct Tryz.underlying48 ht
  match cs, hlen with
  | [c0, c1, c2, c3, c4, c5], _ =>
    match xs, hxl with
    | [y0, y1, y2, y3], _ =>
      have t0 : DataW.trod enc Tryz.prog W 0 (fun _ => true) true k 3 (([c0, c1, c2, c3, c4, c5].drop 0).take (Tryz.prog.cellsOf 3)) = some y0 := hg 0 _ rfl
      have t1 : DataW.trod enc Tryz.prog W 0 (fun _ => true) true k 3 (([c0, c1, c2, c3, c4, c5].drop 1).take (Tryz.prog.cellsOf 3)) = some y1 := hg 1 _ rfl
      have t2 : DataW.trod enc Tryz.prog W 0 (fun _ => true) true k 46 (([c0, c1, c2, c3, c4, c5].drop 2).take (Tryz.prog.cellsOf 46)) = some y2 := hg 2 _ rfl
      have t3 : DataW.trod enc Tryz.prog W 0 (fun _ => true) true k 9 (([c0, c1, c2, c3, c4, c5].drop 5).take (Tryz.prog.cellsOf 9)) = some y3 := hg 3 _ rfl
      rw [cells3] at t0 t1
      rw [cells35] at t2
      rw [cells9] at t3
      obtain ⟨x0, e0, _, w0⟩ := DataW.trod_int Tryz.underlying3 t0
      obtain ⟨x1, e1, _, w1⟩ := DataW.trod_int Tryz.underlying3 t1
      obtain ⟨z0, z1, z2, n', _, s0, s1, s2⟩ := trod_array3 Tryz.underlying46 cells3 t2
      obtain ⟨x2, e2, _, w2⟩ := DataW.trod_int Tryz.underlying3 s0
      obtain ⟨x3, e3, _, w3⟩ := DataW.trod_int Tryz.underlying3 s1
      obtain ⟨x4, e4, _, w4⟩ := DataW.trod_int Tryz.underlying3 s2
      obtain ⟨x5, e5, _, _⟩ := DataW.trod_string Tryz.underlying9 t3
      simp at e0 e1 e2 e3 e4 e5
      subst e0 e1 e2 e3 e4 e5
      refine ⟨(x0, x1, (x2, x3, x4), x5), ?_, ⟨bd_of_wf w0, bd_of_wf w1⟩, bd_of_wf w2, bd_of_wf w3, bd_of_wf w4⟩
      intro i u hu
      have hi : i < 6 := (List.getElem?_eq_some_iff.1 hu).1
      rw [hat i hi]
      exact hu
set_option maxRecDepth 100000 in
theorem open_ents (hv : Value.okWide Tryz.prog W .any b0 23 v) (h : DataW.Trod enc Tryz.prog W 0 (fun _ => true) true 23 v d p) :
    ∃ A n c es, v = .slice A n c ∧ Reads W W.heap.size 6 A n (ents es) ∧ (n ≤ c ∧ c ≤ 9223372036854775807) ∧ ∀ e ∈ es, EBd e := by
  obtain ⟨A0, len0, cap0, rfl⟩ := okWide_slice Tryz.underlying23 hv
  obtain ⟨fuel, hf⟩ := h
  rcases open_slice Tryz.underlying23 hf with ⟨e, _⟩ | ⟨a, len, cap, m, n', D, Pl, e, _, hl, hm, hmm, _, hel⟩
  · obtain ⟨rfl, rfl, rfl⟩ : A0 = none ∧ len0 = 0 ∧ cap0 = 0 := by simpa [Value.cells] using e
    exact ⟨none, 0, 0, [], rfl, Reads.nil, by omega, fun q hq => by simp at hq⟩
  · obtain ⟨rfl, rfl, rfl⟩ : A0 = some a ∧ len0 = len ∧ cap0 = cap := by simpa [Value.cells] using e
    simp only [if_true] at hmm
    obtain ⟨l, hes, hp⟩ := list_of_fam (fun i (x : Ent) => AtE W (a.add (i * 6)) x ∧ EBd x) len0 (fun i hi => by
      obtain ⟨cs, hcs, ht⟩ := hel i (by omega)
      rw [cells53] at hcs
      exact one_ent hcs ht)
    refine ⟨some a, len0, cap0, l, rfl, ⟨by rw [ents_length, hes], fun h0 => ⟨a, rfl, ?_, fun j u hu => ?_⟩⟩, by unfold maxLen at hm; omega, fun q hq => ?_⟩
    · have h1 : l[0]? = some l[0] := List.getElem?_eq_getElem (by omega)
      have := World.block_lt_of_cell? _ _ ((hp 0 _ h1).1 0 _ rfl)
      simpa [blockAdd] using this
    · have hjl : j < l.length * 6 := by
        have := (List.getElem?_eq_some_iff.1 hu).1
        rwa [ents_length] at this
      have hk : j / 6 < l.length := by omega
      have q0 := (hp (j / 6) l[j / 6] (List.getElem?_eq_getElem hk)).1
      have r0 := ents_get hk (i := j % 6) (by omega)
      have hj : j / 6 * 6 + j % 6 = j := by omega
      rw [hj, hu] at r0
      have := q0 (j % 6) u r0.symm
      rwa [add_of_add, hj] at this
    · obtain ⟨i, hi, rfl⟩ := List.getElem_of_mem hq
      exact (hp i _ (List.getElem?_eq_getElem hi)).2

theorem trodAll_below {W' : World} (hb : Below W.heap.size W W') : ∀ {ts : List TypeId} {vs : List Value} {ds : List (DataW H)} {ps : List MemPlace}, (∀ t ∈ ts, Tryz.prog.readableRec t = true ∧ t < Tryz.prog.types.size) → DataW.TrodAll enc Tryz.prog W 0 (fun _ => true) true ts vs ds ps →
    (∀ x ∈ ps, x.block < W.heap.size) → DataW.TrodAll enc Tryz.prog W' 0 (fun b => decide (b < W.heap.size)) true ts vs ds ps
  | [], [], [], _, _, h, _ => h
  | _ :: _, _ :: _, _ :: _, _, hT, ⟨p, q, h1, h2, e⟩, hlt =>
    ⟨p, q, Below.trod laidOut (hT _ (List.mem_cons.2 (Or.inl rfl))).1 (hT _ (List.mem_cons.2 (Or.inl rfl))).2 h1 hb (fun x hx => hlt x (by rw [e]; exact List.mem_append_left _ hx)),
      trodAll_below hb (fun t ht => hT t (List.mem_cons.2 (Or.inr ht))) h2 (fun x hx => hlt x (by rw [e]; exact List.mem_append_right _ hx)), e⟩

/-- The row's end, for a law that answers true and leaves a grown world. -/
theorem law_post {f : Func} {s : ChangeSpec} {W' : World} {args : Array Value} {ds : List (DataW H)} {p : List MemPlace} (hvars : s.vars = []) (hts : ∀ t ∈ f.params.toList, Tryz.prog.readableRec t = true ∧ t < Tryz.prog.types.size)
    (hres : f.resultTypes = #[4]) (hfn : s.fn H ds = { results := [.lit (.bool true)], args := ds })
    (hW : DataW.Whole enc Tryz.prog f.params.toList s.vars false W args.toList ds [] p) (hA : DataW.TrodAll enc Tryz.prog W 0 (fun _ => true) true f.params.toList args.toList ds p) (hb : Below W.heap.size W W') :
    s.post enc Tryz.prog f false true false false W args (.bool true) W' := by
  have hlt : ∀ x ∈ p, x.block < W.heap.size := fun x hx => hW.lt x hx
  refine ⟨ds, [], p, [], p, [], hW, ?_, ?_, ?_, ?_, fun h => by cases h⟩
  · rw [List.append_nil, hfn, hres]
    exact trodAll_mk1 (shut_bool Tryz.underlying4 true)
  · rw [List.append_nil, hfn]
    exact trodAll_below hb hts hA hlt
  · rw [List.append_nil, hfn, hvars]
    rfl
  · exact World.keptBut_mono (fun x hx => ⟨hx, Or.inr (Or.inl hx)⟩) (hb.frame (· ∈ p))
end
end Go.Proofs.YtnlhllleipemlaaGreatDoor

namespace Go.Proofs.YtnlhllleipemlaaGreatDoor
open Go.ChangeShapes Go.WideShapes Go.RowKit

theorem e_et : Tryz.prog.globalNamed "errors.errorType" = some 0 := by kernel_rfl
theorem e_rt : (Tryz.prog.cutTypes.find? (·.1 == "internal/reflectlite.rtype")).map (·.2) = some 118 := by kernel_rfl
theorem e_row : ((List.range Tryz.prog.types.size).filter fun t => Tryz.prog.rowNamed t [101, 114, 114, 111, 114]) = [52] := by kernel_rfl
theorem e_hh : typeHandle Tryz.prog 52 = .pointer (some ⟨9, 52, none⟩) := by kernel_rfl
/-- What the rows list. -/
abbrev laidR : List (String × DataW Unit) := [("math/bits.deBruijn32tab", Rows.laid_math_bits_deBruijn32tab), ("math/bits.deBruijn64tab", Rows.laid_math_bits_deBruijn64tab), ("internal/strconv.uint64pow10", Rows.laid_internal_strconv_uint64pow10), ("unicode/utf8.acceptRanges", Rows.laid_unicode_utf8_acceptRanges), ("errors.errorType", Rows.laid_errors_errorType), ("strconv.ErrRange", Rows.laid_strconv_ErrRange), ("strconv.ErrSyntax", Rows.laid_strconv_ErrSyntax), ("unicode/utf8.first", Rows.laid_unicode_utf8_first)]
abbrev plainR : List (String × DataW Unit) := [("math/bits.deBruijn32tab", Rows.laid_math_bits_deBruijn32tab), ("math/bits.deBruijn64tab", Rows.laid_math_bits_deBruijn64tab), ("internal/strconv.uint64pow10", Rows.laid_internal_strconv_uint64pow10), ("unicode/utf8.acceptRanges", Rows.laid_unicode_utf8_acceptRanges), ("strconv.ErrRange", Rows.laid_strconv_ErrRange), ("strconv.ErrSyntax", Rows.laid_strconv_ErrSyntax), ("unicode/utf8.first", Rows.laid_unicode_utf8_first)]
theorem laid_parts {w : World} (h : laidMetH Tryz.prog laidR w) : laidMet Tryz.prog plainR w ∧ handlesMet Tryz.prog [("errors.errorType", Rows.laid_errors_errorType)] w := h
theorem ety_of {w : World} (h : laidMetH Tryz.prog laidR w) : ETy w := by
  obtain ⟨name, u, ty, e1, e2, e3, e4, e5⟩ := (laid_parts h).2 _ (List.mem_singleton.2 rfl)
  have en : name = [101, 114, 114, 111, 114] := (Option.some.inj e1).symm
  subst en
  obtain rfl := Option.some.inj (e_rt.symm.trans e2)
  have hm : ty ∈ (List.range Tryz.prog.types.size).filter fun t => Tryz.prog.rowNamed t [101, 114, 114, 111, 114] := List.mem_filter.2 ⟨List.mem_range.2 e3, e4⟩
  rw [e_row] at hm
  obtain rfl := List.mem_singleton.1 hm
  rw [e_hh] at e5
  simpa using World.var?_cell e_et e5 0
end Go.Proofs.YtnlhllleipemlaaGreatDoor

namespace Go.Proofs.YtnlhllleipemlaaGreatDoor
open Go.ChangeShapes Go.WideShapes Go.RowKit

theorem mx_of {w : World} (h : w.ShapedOpen Tryz.prog) : ∃ m, w.cell? ⟨1, 0, none⟩ = some (.int .i64 m) :=
  Go.Proofs.cell_of_shapedOpen_int (zero := #[.int .i64 0]) (t := 3) h (of_decide_eq_true (by kernel_rfl)) (by kernel_rfl) rfl (by kernel_rfl) (by kernel_rfl) Tryz.underlying3
end Go.Proofs.YtnlhllleipemlaaGreatDoor

namespace Go.Proofs.YtnlhllleipemlaaGreatDoor
open Go.ChangeShapes Go.WideShapes Go.ChangeAt Go.RowKit Go.Sort

/-- The lift: what the rows list is there, and the world is of the program's shape. -/
theorem lift_of {C : Checked} {laid : List (String × DataW Unit)} {M : World → Prop} (hM : ∀ W w : World, W.ShapedOpen C.prog → w.heap = W.heap → laidMetH C.prog laid w → M W) {H : Type} {enc : TypeId × Value → H} {os : Os} {f : FuncId} {fn : Func} {s : ChangeSpec} (own : ownKnob C.prog.godebug = none) (started : os.Started) (noInit : C.prog.inits.idxOf? f = none) (hfn : C.prog.funcs[f]? = some fn)
    (witness : ∃ (w : World) (tape : Tape) (i : Input), w.os = os ∧ (w.forCall tape i).Shaped C.prog ∧ i.vars = [] ∧ Input.okWide C.prog (w.forCall tape i) .any w.heap.size f i ∧
      ((s.pre enc C.prog fn [] false (w.forCall tape i).memory i.args ∧ laidMetH C.prog laid (w.forCall tape i).memory) ∧ sizedMet enc C.prog fn (OpenSpec.ofChange s) false (w.forCall tape i).memory i.args) ∧ ({} : Assume).holds C.prog (lone (Frame.enter C.prog f i.args .normal) [] (w.forCall tape i)))
    (contract : ∀ (W : World) (base : Nat) (args : Array Value) (ds gs : List (DataW H)) (before : List MemPlace),
      (∀ (j : Nat) t v, fn.params[j]? = some t → args[j]? = some v → Value.okWide C.prog W .any base t v) →
      DataW.Whole enc C.prog fn.params.toList s.vars false W args.toList ds gs before → M W →
      Calls C.prog f args W fun e W' => ∃ v, e = .returned v ∧ s.post enc C.prog fn false true false false W args v W') :
    ReturnsInHanded {} C os f .any (fun w args => (s.pre enc C.prog fn [] false w args ∧ laidMetH C.prog laid w) ∧ sizedMet enc C.prog fn (OpenSpec.ofChange s) false w args)
      (s.post enc C.prog fn false true false false) := by
  refine returnsInHanded_of_calls own started noInit witness ?_
  intro w tape i _ hshape _ hok hpre hholds
  obtain ⟨_, _, _, fn', hfn', _, _, _, _, hval⟩ := hok
  have e : fn' = fn := Option.some.inj (hfn'.symm.trans hfn)
  subst e
  obtain ⟨⟨⟨ds, gs, before, hw, hc⟩, hlm⟩, hz⟩ := hpre
  have hw' := DataW.Whole.of_heap (w' := w.forCall tape i) (by rfl) hw
  refine (contract (w.forCall tape i) w.heap.size i.args ds gs before hval hw' (hM _ (w.forCall tape i).memory hshape (by rfl) hlm)).mono fun e W' ⟨v, he, hp⟩ => ?_
  subst he
  exact ChangeSpec.post_blind hp
theorem err_of {w : World} {n : String} {g : Nat} {t : TypeId} {cs : Array Value} {fuel : Nat} {p : List MemPlace} {nm : String} {d : DataW Unit} {g0 : Nat} (h0 : Tryz.prog.globalNamed n = some g0) (h1 : (Tryz.prog.globals[g0]?).map (·.type) = some 52)
    (hg : Tryz.prog.globalNamed n = some g) (ht : (Tryz.prog.globals[g]?).map (·.type) = some t) (hv : w.var? Tryz.prog n = some cs) (htr : DataW.trod (fun _ => ()) Tryz.prog w 0 (fun _ => true) false fuel t cs.toList = some (.iface nm d, p)) : ErrCell w g0 := by
  obtain rfl : g0 = g := Option.some.inj (h0.symm.trans hg)
  obtain rfl : 52 = t := Option.some.inj (h1.symm.trans ht)
  obtain ⟨_, u, v, hc, _, _⟩ := iface_of_trod Tryz.underlying52 htr
  have h2 := World.var?_cell h0 hv 0
  refine ⟨.iface u v, ?_, .inr ⟨u, v, rfl⟩⟩
  have h3 : cs[0]? = some (.iface u v) := by rw [← Array.getElem?_toList, hc]; rfl
  exact h2.trans h3
theorem cell_heap {w w' : World} (h : w.heap = w'.heap) (a : Addr) : w.cell? a = w'.cell? a := by
  unfold World.cell?
  rw [h]
theorem var_heap {w w' : World} (h : w.heap = w'.heap) (P : Program) (n : String) : w.var? P n = w'.var? P n := by
  unfold World.var?
  rw [h]
theorem ErrCell.heap {w w' : World} (h : w.heap = w'.heap) {b : Nat} (he : ErrCell w b) : ErrCell w' b := by
  obtain ⟨e, h1, h2⟩ := he
  exact ⟨e, by rwa [← cell_heap h], h2⟩
theorem tabType : (Tryz.prog.globals[4]?).map (·.type) = some 194 := by kernel_rfl
theorem mw_of (W w : World) (h : W.ShapedOpen Tryz.prog) (hh : w.heap = W.heap) (hl : laidMetH Tryz.prog laidR w) : MW W := by
  have hty : ETy W := by
    have := ety_of hl
    unfold ETy at this ⊢
    rwa [← cell_heap hh]
  obtain ⟨ps, h1, _⟩ := (laid_parts hl).1
  obtain ⟨_, _, _, _, _, _, _, _, _, _, h2, _⟩ := h1
  obtain ⟨_, _, _, _, _, _, _, _, _, _, h3, _⟩ := h2
  obtain ⟨gt, tt, ct, fuelt, pt, qt, a1, a2, a3, a4, h4, _⟩ := h3
  obtain ⟨_, _, _, _, _, _, _, _, _, _, h5, _⟩ := h4
  obtain ⟨g, t, cs, fuel, p, q, r1, r2, r3, r4, h6, _⟩ := h5
  obtain ⟨g', t', cs', fuel', p', q', s1, s2, s3, s4, _, _⟩ := h6
  refine ⟨hty, mx_of h, (err_of (g0 := 2) (by kernel_rfl) (by kernel_rfl) s1 s2 s3 s4).heap hh, (err_of (g0 := 3) (by kernel_rfl) (by kernel_rfl) r1 r2 r3 r4).heap hh, ?_⟩
  obtain rfl : 4 = gt := Option.some.inj (tab_glob.symm.trans a1)
  obtain rfl : 194 = tt := Option.some.inj (tabType.symm.trans a2)
  have hc := Lib.cells_of_tab (k := .u64) (zs := Lib.pow10Tab) Tryz.underlying194 Tryz.underlying141 (by kernel_rfl) (by kernel_rfl) a4
  show W.var? Tryz.prog "internal/strconv.uint64pow10" = _
  rw [← var_heap hh, a3, ← hc]
end Go.Proofs.YtnlhllleipemlaaGreatDoor

namespace Go.Proofs.YtnlhllleipemlaaGreatDoor
open Go.ChangeShapes Go.WideShapes Go.ChangeAt Go.RowKit Go.Sort

/-- The settled world, the handle's cell laid. -/
noncomputable def handW (os : Os) : World :=
  let w0 := World.holding Tryz.prog os ⟨#[], #[], []⟩
  { w0 with heap := w0.heap.modify 0 fun
      | .cells _ t frozen => .cells #[.iface 118 (.agg #[.pointer (some ⟨9, 52, none⟩)])] t frozen
      | o => o }
noncomputable def laidW (os : Os) : World := (handW os).layVars Tryz.prog plainR
theorem laidW_os (os : Os) : (laidW os).os = os := World.layVars_os _ _ _
theorem laidW_plain (os : Os) : laidMet Tryz.prog plainR (laidW os) := by
  have e1 : (plainR.filter fun x => (plainR.map (·.1)).contains x.1) = plainR := List.filter_eq_self.2 fun x hx => List.contains_iff_mem.2 (List.mem_map.2 ⟨x, hx, rfl⟩)
  have e2 : (plainR.filter fun x => !(plainR.map (·.1)).contains x.1) = [] := List.filter_eq_nil_iff.2 fun x hx => by rw [List.contains_iff_mem.2 (List.mem_map.2 ⟨x, hx, rfl⟩)]; simp
  exact laidMet_layVars (w0 := handW os) (plainR.map (·.1)) [] (by rw [e1]; rfl) (by rw [e1]; kernel_rfl) (by rw [e1]; kernel_rfl) (by rw [e2]; exact LaidIn.none)
theorem laidR_plain : (laidR.filter fun x => x.2.handleName?.isNone) = plainR := by kernel_rfl
theorem laidW_met (os : Os) (args : Array Value) : laidMetH Tryz.prog laidR ((laidW os).forCall (fun _ _ => 0) ⟨#[], args, []⟩).memory :=
  laidMetH_of_parts (by rw [laidR_plain]; exact (laidW_plain os).of_heap (by simp [World.memory, World.forCall, Input.heap])) (by kernel_rfl)
end Go.Proofs.YtnlhllleipemlaaGreatDoor
