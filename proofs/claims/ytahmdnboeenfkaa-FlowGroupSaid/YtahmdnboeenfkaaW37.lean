/- Walks: the sum of the indices of all whorls. -/
import Derived.Test.YtahmdnboeenfkaaW14
import Derived.Test.YtahmdnboeenfkaaPl8
namespace Go.Proofs.Ytahmdnboeenfkaa
open Go.RowKit Go.Sort

theorem whorls_len (f : Fld) : (whorls f).length ≤ 144 := by
  unfold whorls
  split
  · rename_i hz
    have hk := okf_of_valid hz
    have := whF_le f (f.H - 1).toNat hk.w2
    have := hk.h2
    omega
  · simp
theorem tot_take_succ {l : List Edg} {k : Nat} {e : Edg} (h : l[k]? = some e) : tot (l.take (k + 1)) = tot (l.take k) + e.2.2 := by
  rw [take_succ_of h, tot_snoc]
theorem tot_bd {l : List Edg} (h : ∀ e ∈ l, -4 ≤ e.2.2 ∧ e.2.2 ≤ 4) : -(4 * (l.length : Int)) ≤ tot l ∧ tot l ≤ 4 * (l.length : Int) := by
  induction l with
  | nil => simp [tot]
  | cons a l ih =>
    have h1 := h a (by simp)
    have h2 := ih fun e he => h e (by simp [he])
    have : tot (a :: l) = a.2.2 + tot l := by simp [tot]
    rw [this, List.length_cons]
    push_cast
    omega
theorem whorls_bd {f : Fld} {e : Edg} (h : e ∈ whorls f) : -4 ≤ e.2.2 ∧ e.2.2 ≤ 4 := by
  obtain ⟨k, hk, rfl⟩ := List.getElem_of_mem h
  obtain ⟨_, _, hi, _⟩ := whorls_get (List.getElem?_eq_getElem hk)
  have r4 := rnd_four f (whorls f)[k].1 (whorls f)[k].2.1
  have r5 := rnd_bd f (whorls f)[k].1 (whorls f)[k].2.1
  rw [← hi] at r4
  omega
set_option maxRecDepth 10000 in
set_option maxHeartbeats 1000000 in
theorem total_any (v : FV) (w : World) (hv : v.In w) :
    Calls Try.prog 53 #[v.val] w fun r w' => r = .returned (.int .i64 (tot (whorls v.f))) ∧ Below w.heap.size w w' := by
  have HVv := Lib.hid hv
  clear hv
  go_enter Try.func53, Try.ntmps53
  dsimp only [FV.val]
  go_wp2_with fail
  with_reducible refine (Whorls_any v _ (HVv.out.below (belowA _ _))).mono ?_
  rintro r w1 ⟨A, c, rfl, hr1, hb1⟩
  have HR := Lib.hid hr1
  have hw1 := Lib.hid (below1 _ hb1)
  have HB := Lib.hid (fun e he => whorls_bd (f := v.f) (e := e) he)
  have hlen := whorls_len v.f
  clear hr1 hb1
  generalize hes : whorls v.f = es at HR hlen HB ⊢
  have HES := Lib.hid hes
  clear hes
  go_wp2_with fail
  go_loopw [5, 6] (fun s i wr => ∃ k : Nat, k ≤ es.length ∧ i = .int .i64 k ∧ s = .int .i64 (tot (es.take k)) ∧ Below w1.heap.size w1 wr) (fun _ i _ => es.length - (intOf i).toNat)
  case atStart => exact ⟨0, by omega, rfl, by simp [tot], Below.refl _ _⟩
  case round =>
    obtain ⟨k, hk, rfl, rfl, hb0⟩ := hrel
    have HB0 := Lib.hid hb0
    replace HR := Lib.hid (HR.out.on hb0)
    clear hb0
    by_cases hlt : k < es.length
    · obtain ⟨ad, e, e1, hbk, hx0, d0, d1, d2⟩ := psat HR.out hlt
      have X := fun w => ix40 (c := c) e1 hlt w
      have HT := Lib.hid (tot_take_succ hx0)
      obtain ⟨z0, z1⟩ := HB.out e (List.mem_of_getElem? hx0)
      obtain ⟨t0, t1⟩ := tot_bd (l := es.take k) (fun x hx => HB.out x (List.mem_of_mem_take hx))
      have tl : (es.take k).length ≤ 144 := Nat.le_trans (List.length_take_le _ _) (by omega)
      clear hx0 e1 d0 d1
      generalize tot (es.take k) = s at HT t0 t1
      go_wp2_with fail
      go_roundw
      case rel => exact ⟨k + 1, by omega, by go_num, by rw [HT.out], HB0.out⟩
      case measure => simp [intOf]; omega
    · have HT := Lib.hid (show es.take k = es from List.take_of_length_le (by omega))
      rw [HT.out]
      generalize hs : tot es = s
      have HS := Lib.hid hs
      clear hs
      go_wp2_with fail
      go_ret
      exact ⟨by rw [HES.out, HS.out]; rfl, below_trans' hw1.out HB0.out⟩
end Go.Proofs.Ytahmdnboeenfkaa
