/- Contract of Same: are two lists of byte slices the same; bytes as a string. -/
import Derived.Test.YtamfceklddbldaaApp
namespace Go.Proofs.Ytamfceklddbldaa
open Go.RowKit

def str (l : Bs) : ByteArray := ⟨l.toArray⟩
theorem str_toList (l : Bs) : (str l).toList = l := ByteArray.toList_mk l
theorem foldl_bytes (l : Bs) : (l.map fun b => (b.toNat : Int)).foldl (fun (r : ByteArray) (n : Int) => r.push (UInt8.ofNat n.toNat)) ByteArray.empty = str l := by
  rw [foldl_push_bytes]
  simp [str, ByteArray.empty, ByteArray.emptyWithCapacity, Function.comp_def]
  rfl
theorem BV.str {P : Program} {w : World} {lo : Nat} {v : Value} {l : Bs} (h : BV w lo v l) {s d e : TypeId} (hs : P.underlying s = some (.slice e)) (he : P.underlying e = some (.int .u8)) (hd : P.underlying d = some .string) :
    (convert s d v).run P w = .ok (.string (str l)) w := by
  obtain ⟨A, c, rfl, _, _, h3⟩ := h
  rw [run_convert_bytes_string w s d e _ _ c hs he hd]
  rcases A with _ | ad
  · have : l = [] := by
      cases l with
      | nil => rfl
      | cons x r => obtain ⟨b, off, e, _⟩ := h3 (by simp); cases e
    subst this
    simp [Conv.bytesToString]
    rfl
  · have hl : (loadCells ad (l.map bv).length).run P w = .ok ((l.map fun b => (b.toNat : Int)).map (Value.int .u8)).toArray w := by
      have := run_loadCells_list (P := P) w ad (l.map bv) (fun j u hu => by
        obtain ⟨b, off, e, _, hc⟩ := h3 (by intro e; rw [e] at hu; simp at hu)
        injection e with e
        subst e
        rw [show (⟨b, off, none⟩ : Addr).add j = ⟨b, off + j, none⟩ from by unfold Addr.add; split <;> simp_all]
        exact hc j u hu)
      rw [this]
      simp [bv, Function.comp_def]
    rw [run_bytesToString w ad _ c _ hl, foldl_bytes]
theorem Try.conv_str {w : World} {lo : Nat} {v : Value} {l : Bs} (h : BV w lo v l) : (convert 22 9 v).run Try.prog w = .ok (.string (str l)) w := h.str Try.underlying22 Try.underlying5 Try.underlying9
theorem RV.at_ {w : World} {lo : Nat} {v : Value} {ls : List Bs} (h : RV w lo v ls) (hne : ls ≠ []) : ∃ b off c, v = .slice (some ⟨b, off, none⟩) ls.length c ∧ lo ≤ b ∧ ls.length ≤ c ∧ c ≤ maxLen ∧
    ∀ j, j < ls.length → ∃ u, w.cell? ⟨b, off + j, none⟩ = some u ∧ BV w lo u (ls.getD j []) := by
  obtain ⟨vs, h1, h2, h3⟩ := h
  obtain ⟨b, off, c, e, g1, g2, g3, g4⟩ := h1.at_ (by intro e; rw [e] at h2; exact hne (List.eq_nil_of_length_eq_zero h2.symm))
  rw [h2] at e g2
  refine ⟨b, off, c, e, g1, g2, g3, fun j hj => ?_⟩
  have hv : vs[j]? = some (vs[j]'(by omega)) := List.getElem?_eq_getElem (by omega)
  refine ⟨_, g4 j _ hv, h3 j _ _ hv ?_⟩
  simp [List.getD, hj]
theorem RV.at2 {w : World} {lo n c : Nat} {A : Option Addr} {ls : List Bs} (h : RV w lo (.slice A n c) ls) (hne : ls ≠ []) : ∃ b off, A = some ⟨b, off, none⟩ ∧ lo ≤ b ∧
    ∀ j, j < ls.length → ∃ u, w.cell? ⟨b, off + j, none⟩ = some u ∧ BV w lo u (ls.getD j []) := by
  obtain ⟨b, off, c', e, h1, _, _, h2⟩ := h.at_ hne
  injection e with e _ _
  exact ⟨b, off, e, h1, h2⟩
theorem RV.form {w : World} {lo : Nat} {v : Value} {ls : List Bs} (h : RV w lo v ls) : ∃ A c, v = .slice A ls.length c ∧ ls.length ≤ c ∧ c ≤ maxLen := by
  obtain ⟨vs, ⟨A, c, rfl, h1, h2, _⟩, h3, _⟩ := h
  exact ⟨A, c, by rw [h3], by omega, h2⟩
theorem BV.form {w : World} {lo : Nat} {v : Value} {l : Bs} (h : BV w lo v l) : ∃ A c, v = .slice A l.length c ∧ l.length ≤ c ∧ c ≤ maxLen := by
  obtain ⟨A, c, rfl, h1, h2, _⟩ := h
  rw [List.length_map] at h1 ⊢
  exact ⟨A, c, rfl, h1, h2⟩
theorem take_snocR (l : List Bs) (k : Nat) (h : k < l.length) : l.take (k + 1) = l.take k ++ [l.getD k []] := by
  rw [List.take_succ_eq_append_getElem h]; simp [List.getD, h]

def SamePost (w : World) (a b : List Bs) (e : Ending) (w' : World) : Prop := e = .returned (.bool (decide (a = b))) ∧ ∃ n, w' = w.drewN n
set_option maxHeartbeats 800000 in
theorem same_any (v u : Value) (a b : List Bs) (w : World) (ha : RV w 0 v a) (hb : RV w 0 u b) :
    Calls Try.prog 16 #[v, u] w (SamePost w a b) := by
  have HA := Lib.hid ha
  have HB := Lib.hid hb
  obtain ⟨A, c, rfl, h1, h2⟩ := ha.form
  obtain ⟨A', c', rfl, h1', h2'⟩ := hb.form
  clear ha hb
  unfold maxLen at h2 h2'
  by_cases hl : a.length = b.length
  · have HL := Lib.hid hl
    have e1 : ((a.length : Int) != (b.length : Int)) = false := by simp [hl]
    clear hl
    go_enter Try.func16, Try.ntmps16
    go_wp2
    go_loopw [5] (fun i wr => ∃ k : Nat, k ≤ a.length ∧ i = .int .i64 k ∧ a.take k = b.take k ∧ ∃ n, wr = w.drewN n) (fun i _ => a.length - (intOf i).toNat)
    case atStart => exact ⟨0, Nat.zero_le _, rfl, by simp, 0, rfl⟩
    case round =>
      obtain ⟨k, hk, rfl, ht, n, rfl⟩ := hrel
      have HT := Lib.hid ht
      clear ht
      by_cases hlt : k < a.length
      · have hltb : k < b.length := by rw [← HL.out]; exact hlt
        obtain ⟨b1, o1, rfl, _, hc1⟩ := HA.out.at2 (by intro e; simp [e] at hlt)
        obtain ⟨b2, o2, rfl, _, hc2⟩ := HB.out.at2 (by intro e; simp [e] at hltb)
        obtain ⟨v1, g1, f1⟩ := hc1 k hlt
        obtain ⟨v2, g2, f2⟩ := hc2 k hltb
        clear hc1 hc2
        have q1 := fun m => Try.conv_str (f1.drewN m)
        have q2 := fun m => Try.conv_str (f2.drewN m)
        have S1 := Lib.hid (take_snocR a k hlt)
        have S2 := Lib.hid (take_snocR b k hltb)
        clear f1 f2
        generalize a.getD k [] = x at *
        generalize b.getD k [] = y at *
        have i1 : (k : Int) < (a.length : Int) := by omega
        have i2 : (k : Int) < (b.length : Int) := by omega
        by_cases hxy : x = y
        · subst hxy
          have t0 : ((str x).toList == (str x).toList) = true := by simp
          go_wp2_with fail
          go_quiet (fail)
          go_wp2
          go_roundw
          case rel => exact ⟨k + 1, by omega, by go_num, by rw [S1.out, S2.out, HT.out], _, rfl⟩
          case measure => simp [intOf]; omega
        · have t0 : ((str x).toList == (str y).toList) = false := by rw [str_toList, str_toList]; simp [hxy]
          have HN : Hid (a ≠ b) := by
            show _ ≠ _
            intro e
            have h1 := S1.out
            rw [e, S2.out, ← e, HT.out] at h1
            simp at h1
            exact hxy h1.symm
          clear hxy
          go_wp2_with fail
          go_quiet (fail)
          go_wp2
          go_ret
          exact ⟨by rw [decide_eq_false HN.out]; rfl, _, drew2 _ _ _⟩
      · obtain rfl : k = a.length := by omega
        have HE : Hid (a = b) := by
          show _ = _
          have := HT.out
          rw [List.take_length, HL.out, List.take_length] at this
          exact this
        clear HT
        go_wp2
        go_ret
        exact ⟨by rw [decide_eq_true HE.out]; rfl, _, rfl⟩
  · have e1 : ((a.length : Int) != (b.length : Int)) = true := by simp; omega
    have HN : Hid (a ≠ b) := by show _ ≠ _; rintro rfl; exact hl rfl
    go_enter Try.func16, Try.ntmps16
    go_wp2
    go_ret
    exact ⟨by rw [decide_eq_false HN.out]; rfl, 0, rfl⟩
end Go.Proofs.Ytamfceklddbldaa
