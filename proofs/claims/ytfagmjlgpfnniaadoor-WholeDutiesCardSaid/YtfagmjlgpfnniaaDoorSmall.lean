/- Contracts of word.Bytes, word.Read and the digest's Copy. -/
import Derived.Test.YtfagmjlgpfnniaaDoorSum
namespace Go.Proofs.YtfagmjlgpfnniaaDoor
open Go.RowKit

/-- A number's bytes, the least first. -/
def byteF (n i : Nat) : Nat := n / 256 ^ i % 256
theorem byteF_lt (n i : Nat) : byteF n i < 256 := Nat.mod_lt _ (by decide)
/-- The eight bytes' values. -/
def byteVals (n : Int) : Array Value := #[.int .u8 (n % 256), .int .u8 (n / 256 % 256), .int .u8 (n / 65536 % 256), .int .u8 (n / 16777216 % 256), .int .u8 (n / 4294967296 % 256), .int .u8 (n / 1099511627776 % 256), .int .u8 (n / 281474976710656 % 256), .int .u8 (n / 72057594037927936)]
theorem byteVals_eq (n : Nat) (hn : n < 18446744073709551616) : byteVals n = (nums .u8 (byteF n) 8).toArray := by
  have h0 : ((n : Int) % 256) = ((byteF n 0 : Nat) : Int) := by unfold byteF; omega
  have h1 : ((n : Int) / 256 % 256) = ((byteF n 1 : Nat) : Int) := by unfold byteF; omega
  have h2 : ((n : Int) / 65536 % 256) = ((byteF n 2 : Nat) : Int) := by unfold byteF; omega
  have h3 : ((n : Int) / 16777216 % 256) = ((byteF n 3 : Nat) : Int) := by unfold byteF; omega
  have h4 : ((n : Int) / 4294967296 % 256) = ((byteF n 4 : Nat) : Int) := by unfold byteF; omega
  have h5 : ((n : Int) / 1099511627776 % 256) = ((byteF n 5 : Nat) : Int) := by unfold byteF; omega
  have h6 : ((n : Int) / 281474976710656 % 256) = ((byteF n 6 : Nat) : Int) := by unfold byteF; omega
  have h7 : ((n : Int) / 72057594037927936) = ((byteF n 7 : Nat) : Int) := by unfold byteF; omega
  unfold byteVals
  rw [h0, h1, h2, h3, h4, h5, h6, h7]
  rfl
def BytesPost (w : World) (n : Nat) (e : Ending) (w' : World) : Prop := e = .returned (.agg (nums .u8 (byteF n) 8).toArray) ∧ Below w.heap.size w w'
set_option maxHeartbeats 1600000 in
theorem bytes_any (n : Nat) (hn : n < 18446744073709551616) (w : World) :
    Calls Tryd.prog 20 #[.int .u64 n] w (BytesPost w n) := by
  unfold BytesPost
  rw [← byteVals_eq n hn]
  go_enter Tryd.func20, Tryd.ntmps20
  go_wp2
  go_rounds 9
  refine bodyPost_ret (v := .agg (byteVals n)) ?_ rfl ⟨rfl, ?_⟩
  · simp [results, Tryd.f20, go_sem, byteVals]
  · exact ((Below.refl _ w).alloc (Nat.le_refl _) _).alloc (by simp) _

def readJ (f : Nat → Nat) : Nat → Nat
  | 0 => 0
  | j + 1 => (bits .or .u64 (readJ f j : Nat) (IntKind.u64.wrap ((f j : Nat) * 2 ^ (8 * j)))).toNat
theorem bits_u64 (op : BinOp) (x y : Int) : 0 ≤ bits op .u64 x y ∧ bits op .u64 x y < 18446744073709551616 := by
  unfold bits
  have h : ∀ z : Int, 0 ≤ IntKind.u64.wrap z ∧ IntKind.u64.wrap z < 18446744073709551616 := fun z => by rw [IntKind.wrap_u64]; omega
  split <;> exact h _
theorem readJ_lt (f : Nat → Nat) (j : Nat) : readJ f j < 18446744073709551616 := by
  cases j with
  | zero => exact (by decide : (0 : Nat) < 18446744073709551616)
  | succ j => have := bits_u64 .or (readJ f j : Nat) (IntKind.u64.wrap ((f j : Nat) * 2 ^ (8 * j))); show Int.toNat _ < _; omega
set_option maxHeartbeats 1600000 in
theorem read_any (b o cap : Nat) (f : Nat → Nat) (w : World) (h : Row w b o 8 .u8 f) (hf : ∀ i, f i < 256) :
    Calls Tryd.prog 31 #[.slice (some ⟨b, o, none⟩) 8 cap] w fun e w' => e = .returned (.tuple #[.int .u64 ((readJ f 8 : Nat) : Int), .int .i64 0]) ∧ w = w' := by
  have HH := Lib.hid h
  have HF := Lib.hid hf
  clear h hf
  go_enter Tryd.func31, Tryd.ntmps31
  go_wp2
  go_loop [4, 12] (fun x i => ∃ k V : Nat, k ≤ 8 ∧ i = .int .i64 k ∧ x = .int .u64 (V : Int) ∧ V = readJ f k) (fun _ i => 8 - (intOf i).toNat)
  case atStart => exact ⟨0, 0, by omega, rfl, rfl, rfl⟩
  case round =>
    obtain ⟨k, V, hk, rfl, rfl, hV⟩ := hrel
    have HV := Lib.hid hV
    have hVl : V < 18446744073709551616 := by rw [hV]; exact readJ_lt f k
    clear hV
    by_cases hlt : k < 8
    · have hcell := HH.out k hlt
      have hx := HF.out k
      obtain ⟨x, hxd⟩ : ∃ x, x = f k := ⟨_, rfl⟩
      rw [← hxd] at hcell hx
      have HX := Lib.hid hxd
      obtain ⟨s, hs⟩ : ∃ s, s = 8 * k := ⟨_, rfl⟩
      have es : 8 * (k : Int) = (s : Int) := by omega
      have ls : (s : Int) < 64 := by omega
      have HS := Lib.hid hs
      clear hxd hs
      go_wp2
      go_round
      case rel =>
        obtain ⟨V', hV'⟩ : ∃ V', V' = readJ f (k + 1) := ⟨_, rfl⟩
        refine ⟨k + 1, V', by omega, by go_num, ?_, hV'⟩
        have := bits_u64 .or (readJ f k : Nat) (IntKind.u64.wrap ((f k : Nat) * 2 ^ (8 * k)))
        rw [hV']
        show _ = Value.int _ (((bits .or .u64 (readJ f k : Nat) (IntKind.u64.wrap ((f k : Nat) * 2 ^ (8 * k)))).toNat : Nat) : Int)
        rw [Int.toNat_of_nonneg this.1, ← HV.out, ← HX.out, ← HS.out]
      case measure => simp [intOf]; omega
    · obtain rfl : k = 8 := by omega
      have HV := Lib.hid HV.out
      go_wp2
      go_ret2
      rw [HV.out]
      exact ⟨rfl, rfl⟩
def CopyPost (w : World) (H R : Nat → Nat) (n all : Nat) (e : Ending) (w' : World) : Prop := e = .returned (.pointer (some ⟨w.heap.size, 0, none⟩)) ∧ w' = w.alloc (.cells (digL H R n all).toArray 100)
theorem CopyPost.dig {w w' : World} {p : Nat} {H R : Nat → Nat} {n all : Nat} {e : Ending} (h : CopyPost w H R n all e w') (d : Dig w p H R n all) : Dig w' w.heap.size H R n all ∧ Below w.heap.size w w' := by
  obtain ⟨_, rfl⟩ := h
  exact ⟨⟨Blk.new w _ _, d.hl, d.rl, d.nl⟩, (Below.refl _ w).alloc (Nat.le_refl _) _⟩
theorem Tryd.size_dig : (Tryd.prog.info? 100).map (·.size) = some 74 := by kernel_rfl
theorem digL_one (H R : Nat → Nat) (n all : Nat) : (digL H R n all).toArray.all (·.oneCell') = true := all_oneCell_toArray (by
  intro v hv
  simp only [digL, List.mem_append, List.mem_cons, List.not_mem_nil, or_false] at hv
  rcases hv with h | h | rfl | rfl
  · exact nums_mem v h
  · exact nums_mem v h
  · rfl
  · rfl)
set_option maxHeartbeats 1600000 in
theorem copy_any (p n all : Nat) (H R : Nat → Nat) (w : World) (d : Dig w p H R n all) :
    Calls Tryd.prog 32 #[.pointer (some ⟨p, 0, none⟩)] w (CopyPost w H R n all) := by
  have hb := d.blk
  unfold Blk at hb
  have z100 : ∀ w, (zeroValue 100).run Tryd.prog w = .ok (.agg (digL (fun _ => 0) (fun _ => 0) 0 0).toArray) w := (zero_of_info (n := 74) (by kernel_rfl)).1
  have hs : ∀ H R n all, (Tryd.prog.info? 100).map (·.size) = some (digL H R n all).toArray.size := fun H R n all => by
    rw [show (digL H R n all).toArray.size = 74 by simp [digL_length]]; exact Tryd.size_dig
  have hold : (digL (fun _ => 0) (fun _ => 0) 0 0).toArray.size = (digL H R n all).toArray.size := by simp [digL_length]
  have hone := digL_one H R n all
  have hsn := hs H R n all
  have hn := heap_alloc_last w (.cells (digL (fun _ => 0) (fun _ => 0) 0 0).toArray 100)
  have HS := Lib.hid (World.setRow_alloc_new w (digL (fun _ => 0) (fun _ => 0) 0 0).toArray (digL H R n all).toArray 100)
  clear d hs
  go_enter Tryd.func32, Tryd.ntmps32
  go_wp2_with (first | (with_reducible refine wpList_load_row rfl _ _ rfl _ rfl _ _ _ _ hb Tryd.underlying100 rfl hsn ?_) | (with_reducible refine wpList_store_row rfl _ _ _ rfl _ _ rfl rfl _ _ hn hsn hold hone ?_))
  go_ret
  exact ⟨rfl, HS.out⟩
end Go.Proofs.YtfagmjlgpfnniaaDoor
