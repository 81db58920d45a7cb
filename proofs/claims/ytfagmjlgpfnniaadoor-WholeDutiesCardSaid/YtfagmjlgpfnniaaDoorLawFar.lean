/- WholeDuties' walk. -/
import Derived.Test.YtfagmjlgpfnniaaDoorZero
namespace Go.Proofs.YtfagmjlgpfnniaaDoor
open Go.RowKit

def Yes (w : World) (en : Ending) (w' : World) : Prop := en = .returned (.bool true) ∧ Below w.heap.size w w'
set_option maxHeartbeats 6400000 in
set_option maxRecDepth 100000 in
theorem duties_far (X : List Value) (D : SD) (E : SD2) (e : Nat) (he : e < 18446744073709551616) (w : World) (tab : Tab w) (st : St w X D) (rs : RS w X D E) (hbig : 100 < D.nv ∨ 1099511627776 ≤ e) :
    Calls Tryd.prog 3 #[.agg X.toArray, .int .u64 e] w (Yes w) := by
  have HST := Lib.hid st
  have HT := Lib.hid tab
  have h2 := tab.size
  have HLEN := Lib.hid st.len
  have bx := Lib.hid (Blk.new w 49 X)
  have b0 := Lib.hid ((Below.refl _ w).alloc (Nat.le_refl _) (.cells X.toArray 49))
  obtain ⟨w0, hw0⟩ : ∃ w0, w0 = w.alloc (.cells X.toArray 49) := ⟨_, rfl⟩
  have W0 := Lib.hid hw0
  have K0 := Lib.hid (show Blk w0 w.heap.size 49 X by rw [hw0]; exact bx.out)
  have B0 := Lib.hid (show Below w.heap.size w w0 by rw [hw0]; exact b0.out)
  have T0 := Lib.hid (HT.out.below B0.out h2)
  have PZ := Lib.hid (proposer_any Z0 D0 w0 T0.out (St.zero w0) (Nat.zero_le _))
  have hc7 : codeR (none : Option (List Nat)) = 7 := rfl
  have HPZ := Lib.hid propR_zero
  have HCZ := Lib.hid countF_zero
  have z49 : ∀ w, (zeroValue 49).run Tryd.prog w = .ok (.agg Z0.toArray) w := (zero_of_info Z0_zero).1
  clear tab st hw0
  go_enter Tryd.func3, Tryd.ntmps3
  go_upto_region 1 with fail
  rw [← W0.out]
  go_upto_region 4 with (first | (go_at_call 4; (with_reducible refine PZ.out.mono ?_); rintro en w1 ⟨hb1, p, rfl, hp⟩; rw [HPZ.out, hc7]; have B1 := Lib.hid hb1; clear hp hb1) | (go_at_call 5; refine (Count_any Z0 D0 0 (by decide) _ (St.zero _) (Nat.zero_le _)).mono ?_; rintro en w2 ⟨rfl, hb2⟩; rw [HCZ.out]; have B2 := Lib.hid hb2; clear hb2))
  have B02 := Lib.hid (show Below w.heap.size w w2 from by
    have h1 := B0.out.trans (B1.out.mono B0.out.size)
    exact h1.trans (B2.out.mono h1.size))
  have K2 := Lib.hid (show Blk w2 w.heap.size 49 X from (K0.out.below B1.out K0.out.lt).below B2.out ((K0.out.below B1.out K0.out.lt).lt))
  have S2 := Lib.hid (HST.out.below B02.out (Nat.le_refl _))
  clear PZ B1 B2 z49
  have R2 := Lib.hid (rs.below B02.out)
  have RT := Lib.hid (right_any X D E w2 S2.out R2.out)
  clear rs
  have c721 : ∀ w3, Below w2.heap.size w2 w3 → w3.cell? ⟨w.heap.size, 721, none⟩ = some (.slice D.A D.nv D.vcap) := fun w3 hb => by rw [(K2.out.below hb K2.out.lt).cell]; exact HST.out.vals
  have C7 := Lib.hid c721
  clear c721
  by_cases h100 : 100 < D.nv
  · have d1 : decide (100 < D.nv) = true := by simp [h100]
    have d2 : decide ((100 : Int) < (D.nv : Int)) = true := by simp; omega
    clear hbig h100
    go_wp2_with (first | (with_reducible refine wpList_load_blk rfl _ _ rfl _ rfl _ _ K2.out _ Tryd.underlying49 rfl 1957 Tryd.size_state HLEN.out ?_) | (go_at_call 6; (with_reducible refine RT.out.mono ?_); rintro en w3 ⟨⟨bb, rfl⟩, hb3⟩; have c721 := C7.out w3 hb3; have B3 := Lib.hid (B02.out.trans (hb3.mono B02.out.size)); clear hb3; cases bb))
    all_goals
      go_ret
      exact ⟨rfl, B3.out⟩
  · have d1 : decide (100 < D.nv) = false := by simp; omega
    have d2 : decide ((100 : Int) < (D.nv : Int)) = false := by simp; omega
    have h40 : 1099511627776 ≤ e := by omega
    have d3 : decide (1099511627776 ≤ e) = true := by simp [h40]
    have d4 : decide ((1099511627776 : Int) ≤ (e : Int)) = true := by simp; omega
    clear hbig h100 h40
    go_wp2_with (first | (with_reducible refine wpList_load_blk rfl _ _ rfl _ rfl _ _ K2.out _ Tryd.underlying49 rfl 1957 Tryd.size_state HLEN.out ?_) | (go_at_call 6; (with_reducible refine RT.out.mono ?_); rintro en w3 ⟨⟨bb, rfl⟩, hb3⟩; have c721 := C7.out w3 hb3; have B3 := Lib.hid (B02.out.trans (hb3.mono B02.out.size)); clear hb3; cases bb))
    all_goals
      go_ret
      exact ⟨rfl, B3.out⟩
end Go.Proofs.YtfagmjlgpfnniaaDoor