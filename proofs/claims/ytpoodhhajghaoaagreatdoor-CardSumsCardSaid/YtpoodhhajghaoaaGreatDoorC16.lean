/- Walks: two cards together, what they have in common, how they are related; the program's. -/
import Derived.Test.YtpoodhhajghaoaaGreatDoorC15
namespace Go.Proofs.YtpoodhhajghaoaaGreatDoor
open Go.RowKit Go.Sort

theorem mergeR_len {a b : List Ent} (h : val2 a b = 0) : (mergeR a b).length = a.length + (wo b a false).length := by
  obtain ⟨ha, hb, hn⟩ := val2_zero.1 h
  have nd : (a ++ wo b a false).Nodup := by
    rw [List.nodup_append]
    refine ⟨sorted_nodup ha.sorted, (sorted_nodup hb.sorted).filter _, fun x hx y hy e => ?_⟩
    subst e
    exact (mem_wo.1 hy).2 hx
  have : (mergeR a b).Perm (a ++ wo b a false) := (List.perm_ext_iff_of_nodup (sorted_nodup (mergeR_sorted ha hb hn)) nd).2 fun e => by
    rw [mem_mergeR ha hb, List.mem_append, mem_wo]
    by_cases h : e ∈ a <;> simp [h]
  rw [this.length_eq, List.length_append]
theorem Held.reads {w0 w : World} {l : List Ent} {A : Option Addr} {n c : Nat} (h : OwnX 38 6 w0 w (.slice A n c) n (ents l)) : Reads w w.heap.size 6 A n (ents l) := Reads.of_own h.row
set_option maxRecDepth 100000 in
theorem merge_any (A B : Option Addr) (n m c d : Nat) (es fs : List Ent) (w : World) (hl : Reads w w.heap.size 6 A n (ents es)) (hm : Reads w w.heap.size 6 B m (ents fs)) (hn : n ≤ 1000000) (hn2 : m ≤ 1000000) (ht : shortT es) (ht2 : shortT fs) :
    Calls Tryz.prog 9 #[.slice A n c, .slice B m d] w (RetE (mrgL es fs) (mrgE es fs) w) := by
  have hlen0 := hl.1
  rw [ents_length] at hlen0
  have hlen1 := hm.1
  rw [ents_length] at hlen1
  have l1 : n ≤ es.length := by omega
  have l2 : es.length ≤ n := by omega
  have l4 : fs.length ≤ m := by omega
  have HL := Lib.hid hl
  have HM := Lib.hid hm
  have HT := Lib.hid ht
  have HT2 := Lib.hid ht2
  clear hl hm hlen0 hlen1 ht ht2
  go_enter Tryz.func9, Tryz.ntmps9
  go_wp2_with fail
  with_reducible refine (split_any A B n m c d es fs _ HL.out HM.out hn hn2 HT.out HT2.out).mono ?_
  rintro _ w2 ⟨v1, v2, v3, rfl, h1, -, h3⟩
  have HW2 := Lib.hid h1.bel
  have H3 := Lib.hid h3
  clear h1 h3
  by_cases hv : val2 es fs = 0
  case neg =>
    have HV := Lib.hid (mrg_bad hv)
    have g := neB hv
    clear hv
    go_wp2_with fail
    go_ret2
    rw [HV.out.2]
    exact RetE.nil HV.out.1.symm HW2.out
  have HV := Lib.hid hv
  have g := neBf hv
  have HSP : Hid (spl es fs (wo fs es false) = wo fs es false) := Lib.hid (if_pos hv)
  have h3 := H3.out
  rw [HSP.out] at h3
  obtain ⟨A3, c3, rfl, ho3⟩ := h3
  have HO3 := Lib.hid ho3
  have HLN := Lib.hid (mergeR_len hv)
  have hw3 := wo_le fs es false
  generalize hk : (wo fs es false).length = k at HO3 HLN hw3 ⊢
  have HK := Lib.hid hk
  clear hv ho3 H3 hk
  go_wp2_with fail
  with_reducible refine (clone_any A n c es _ (HL.out.on HW2.out) hn).mono ?_
  rintro _ w4 ⟨B4, d4, rfl, hr4, hb4⟩
  have HR4 := Lib.hid hr4
  have HO4 := Lib.hid (HO3.out.on hb4)
  have HW4 := Lib.hid (below_trans' HW2.out hb4)
  have hq4 : w2.heap.size ≤ w4.heap.size := hb4.size
  have hlen : n + k ≤ 1000000000 := by omega
  clear hr4 hb4
  by_cases h60 : (60 : Int) < (n : Int) + (k : Int)
  · have HF := Lib.hid (mrg_large HV.out (by rw [HLN.out]; omega))
    go_wp2_with (at_builtin; refine wpList_pushXm rfl _ _ 22 38 rfl Tryz.underlying22 info53b rfl (by omega) (by omega) w2.heap.size w4 B4 n d4 (ents es) A3 k c3 (ents (wo fs es false)) rfl HR4.out hq4 rfl (Reads.of_own HO4.out.row) (ents_one _) hlen ?_; intro A5 c5 w5 hr5 hg5 _; rw [← ents_append] at hr5; have HR5 := Lib.hid hr5; have HW5 := Lib.hid (HW4.out.grown hg5 HW4.out.size fun k hk => Nat.le_trans HW2.out.size (HR4.out.lt k hk).1); clear hr5 hg5)
    go_ret2
    rw [HF.out.2]
    exact RetE.nil HF.out.1.symm HW5.out
  · have HF := Lib.hid (mrg_ok HV.out (by rw [HLN.out]; omega))
    go_wp2_with (at_builtin; refine wpList_pushXm rfl _ _ 22 38 rfl Tryz.underlying22 info53b rfl (by omega) (by omega) w2.heap.size w4 B4 n d4 (ents es) A3 k c3 (ents (wo fs es false)) rfl HR4.out hq4 rfl (Reads.of_own HO4.out.row) (ents_one _) hlen ?_; intro A5 c5 w5 hr5 hg5 _; rw [← ents_append] at hr5; have HR5 := Lib.hid hr5; have HW5 := Lib.hid (HW4.out.grown hg5 HW4.out.size fun k hk => Nat.le_trans HW2.out.size (HR4.out.lt k hk).1); clear hr5 hg5)
    with_reducible refine (sort_any (bl := w2.heap.size) A5 (n + k) c5 (es ++ wo fs es false) _ HR5.out (by omega)).mono ?_
    rintro _ w9 ⟨rfl, es', hp, hsort, hr9, hg9⟩
    obtain ⟨ha, hb, hnp⟩ := val2_zero.1 HV.out
    have HSRT := Lib.hid (merge_sort ha hb hnp hp hsort)
    have HR9 := Lib.hid hr9
    have HB9 := Lib.hid (HW5.out.grown hg9 HW5.out.size fun k hk => Nat.le_trans HW2.out.size (HR5.out.lt k hk).1)
    clear hp hsort hr9 hg9 ha hb hnp
    go_wp2_with fail
    go_ret2
    rw [HF.out.1, HF.out.2]
    refine ⟨A5, c5, ?_, ?_, HB9.out⟩
    · rw [HLN.out, show es.length = n by omega]; rfl
    · have := row_mono HR9.out HW2.out.size
      rw [HSRT.out] at this
      rwa [HLN.out, show es.length = n by omega]
set_option maxRecDepth 100000 in
theorem meet_any (A B : Option Addr) (n m c d : Nat) (es fs : List Ent) (w : World) (hl : Reads w w.heap.size 6 A n (ents es)) (hm : Reads w w.heap.size 6 B m (ents fs)) (hn : n ≤ 1000000) (hn2 : m ≤ 1000000) (ht : shortT es) (ht2 : shortT fs) :
    Calls Tryz.prog 10 #[.slice A n c, .slice B m d] w (RetE (meetL es fs) (val2 es fs) w) := by
  go_enter Tryz.func10, Tryz.ntmps10
  go_wp2_with fail
  with_reducible refine (split_any A B n m c d es fs _ hl hm hn hn2 ht ht2).mono ?_
  rintro _ w2 ⟨v1, v2, v3, rfl, ⟨A1, c1, rfl, ho1⟩, -, -⟩
  have HO := Lib.hid ho1
  clear ho1
  go_wp2_with fail
  go_ret2
  exact ⟨A1, c1, rfl, HO.out.row, HO.out.bel⟩
end Go.Proofs.YtpoodhhajghaoaaGreatDoor
