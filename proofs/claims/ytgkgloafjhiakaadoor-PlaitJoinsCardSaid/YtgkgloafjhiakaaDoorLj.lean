/- The law of joins and powers, walked. -/
import Derived.Test.YtgkgloafjhiakaaDoorJ3
namespace Go.Proofs.YtgkgloafjhiakaaDoor
open Go.RowKit Go.Sort

set_option maxRecDepth 100000 in
set_option maxHeartbeats 8000000 in
theorem joins_any (u v : ByteArray) (n : Int) (_hn : -9223372036854775808 ≤ n ∧ n ≤ 9223372036854775807) (w : World) (hm : MX w) : Calls Tryd.prog 7 #[.string u, .string v, .int .i64 n] w fun r w' => r = .returned (.bool true) ∧ Below w.heap.size w w' := by
  have HM := Lib.hid hm
  have HP := Lib.hid hm.lt
  clear hm
  go_enter Tryd.func7, Tryd.ntmps7
  go_wp2_with fail
  with_reducible refine (long_any u _).mono ?_
  rintro _ w1 ⟨rfl, rfl⟩
  by_cases h1 : 200 < u.size
  · rw [decide_eq_true h1]
    clear h1
    go_wp2_with fail
    with_reducible refine (known_any _ HM.out).mono ?_
    rintro _ wk ⟨rfl, hbk⟩
    have HBK := Lib.hid (hbk)
    clear hbk
    go_wp2_with fail
    go_ret
    exact ⟨rfl, HBK.out⟩
  rw [decide_eq_false h1]
  have HU := Lib.hid (show u.size ≤ 1000000 by omega)
  clear h1
  go_wp2_with fail
  with_reducible refine (long_any v _).mono ?_
  rintro _ w2 ⟨rfl, rfl⟩
  by_cases h1 : 200 < v.size
  · rw [decide_eq_true h1]
    clear h1
    go_wp2_with fail
    with_reducible refine (known_any _ HM.out).mono ?_
    rintro _ wk ⟨rfl, hbk⟩
    have HBK := Lib.hid (hbk)
    clear hbk
    go_wp2_with fail
    go_ret
    exact ⟨rfl, HBK.out⟩
  rw [decide_eq_false h1]
  have HV := Lib.hid (show v.size ≤ 1000000 by omega)
  clear h1
  go_wp2_with fail
  with_reducible refine (join_any u v _ HU.out HV.out).mono ?_
  rintro _ w3 ⟨rfl, hb3⟩
  have HB3 := Lib.hid hb3
  clear hb3
  generalize hj : joinR u v = J
  have HJ := Lib.hid hj
  clear hj
  go_wp2_with fail
  with_reducible refine (refJoin_any u v _ HU.out HV.out).mono ?_
  rintro _ w4 ⟨rfl, rfl⟩
  rw [HJ.out]
  go_wp2_with fail
  with_reducible refine (power_any u n _ HU.out).mono ?_
  rintro _ w5 ⟨rfl, hb5⟩
  have HB5 := Lib.hid (below_trans' HB3.out hb5)
  clear hb5
  generalize hj : powR u n = P
  have HPW := Lib.hid hj
  clear hj
  go_wp2_with fail
  with_reducible refine (refPower_any u n _ HU.out).mono ?_
  rintro _ w6 ⟨rfl, hb6⟩
  rw [HPW.out]
  have HB6 := Lib.hid (below_trans' HB5.out hb6)
  clear hb6
  go_wp2_with fail
  with_reducible refine (known_any _ (HM.out.below HP.out HB6.out)).mono ?_
  rintro _ wk ⟨rfl, hbk⟩
  have HBK := Lib.hid (below_trans' HB6.out hbk)
  clear hbk
  go_wp2_with fail
  go_ret
  exact ⟨rfl, HBK.out⟩
end Go.Proofs.YtgkgloafjhiakaaDoor
