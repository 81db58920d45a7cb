/- Contract of mix: the words behind a block. -/
import Derived.Test.YtfagmjlgpfnniaaDoorMix2
import Derived.Test.YtfagmjlgpfnniaaDoorWords
namespace Go.Proofs.YtfagmjlgpfnniaaDoor
open Go.RowKit

def rounds (s : SS) : Nat → SS
  | 0 => s
  | t + 1 => (rounds s t).step roundF t
/-- The words behind a block. -/
def mixF (H B : Nat → Nat) (i : Nat) : Nat := (H i + (rounds (SS.start H B) 64).get i) % 4294967296
theorem mixF_lt (H B : Nat → Nat) (i : Nat) : mixF H B i < 4294967296 := Nat.mod_lt _ (by decide)
def MixPost (w : World) (hb ho : Nat) (H B : Nat → Nat) (e : Ending) (w' : World) : Prop := e = .returned (.tuple #[]) ∧ Upd hb ho (ho + 8) w w' ∧ Row w' hb ho 8 .u32 (mixF H B)
theorem mix_any (hb ho bb bo len cap : Nat) (H B : Nat → Nat) (w : World) (tab : Tab w) (hH : Row w hb ho 8 .u32 H) (hF : ∀ i, w.frozen? ⟨hb, i, none⟩ = false) (hH2 : ∀ i, H i < 4294967296)
    (hB : Row w bb bo 64 .u8 B) (hB2 : ∀ i, B i < 256) (hlen : 64 ≤ len) :
    Calls Tryd.prog 29 #[.pointer (some ⟨hb, ho, none⟩), .slice (some ⟨bb, bo, none⟩) len cap] w (MixPost w hb ho H B) :=
  mix_try hb ho bb bo len cap H B roundF (fun t s => s = rounds (SS.start H B) t) w _ (fun t s _ h => by subst h; rfl) (fun i _ => roundF_lt i)
    (fun n arr i hi => by
      have := tab.round i hi
      rw [Nat.zero_add] at this
      rw [World.cell?_alloc_lt (w.drewN n) _ ⟨1, i, none⟩ tab.size]
      exact this)
    (fun i hi => ⟨hH i hi, hF _⟩) hH2 (hH.lt (by omega)) hB hB2 (hB.lt (by omega)) hlen rfl
    (fun s w' hs hu hc => ⟨rfl, hu, fun i hi => by rw [hc i hi, hs]; rfl⟩)
end Go.Proofs.YtfagmjlgpfnniaaDoor
