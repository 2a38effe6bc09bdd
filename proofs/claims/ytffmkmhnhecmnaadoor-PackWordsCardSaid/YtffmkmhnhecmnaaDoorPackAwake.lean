/- The law's fixed fact of layer 2. -/
import Derived.Test.YtffmkmhnhecmnaaDoorPackNext
import Derived.Test.YtffmkmhnhecmnaaDoorPackPut
import Derived.Lib.SlBytesConst
namespace Go.Proofs.YtffmkmhnhecmnaaDoor
open Go.RowKit
theorem tab_later {w w' : World} {g : Nat} {tab : List Nat} (h : TabAt g tab w) (hb : Below w.heap.size w w') : TabAt g tab w' := by
  intro j hj
  have hc := h j hj
  rw [hb.cell (p := ⟨g, j, none⟩) (lt_of_cell hc)]
  exact hc
theorem cellO {w : World} {g : Nat} {cs : Array Value} {t : TypeId} {fr : Nat × Nat} (h : w.heap[g]? = some (.cells cs t fr)) (i : Nat) : w.cell? ⟨g, i, none⟩ = cs[i]? := by simp [World.cell?, h]
def nine : List UInt8 := [49, 50, 51, 52, 53, 54, 55, 56, 57]
theorem bytesNine (w : World) : BytesAt (w.alloc (.cells #[.int .u8 49, .int .u8 50, .int .u8 51, .int .u8 52, .int .u8 53, .int .u8 54, .int .u8 55, .int .u8 56, .int .u8 57] 5 (9, 10))) (.slice (some ⟨w.heap.size, 0, none⟩) 9 9) nine := by
  refine ⟨_, 9, rfl, Nat.le_refl _, by unfold maxLen; omega, Or.inr ⟨w.heap.size, 0, rfl, fun j hj => ?_⟩, fun h => by cases h⟩
  have hblk := heap_alloc_new w (.cells #[.int .u8 49, .int .u8 50, .int .u8 51, .int .u8 52, .int .u8 53, .int .u8 54, .int .u8 55, .int .u8 56, .int .u8 57] 5 (9, 10))
  match j, hj with
  | 0, _ => exact (cellO hblk _).trans rfl
  | 1, _ => exact (cellO hblk _).trans rfl
  | 2, _ => exact (cellO hblk _).trans rfl
  | 3, _ => exact (cellO hblk _).trans rfl
  | 4, _ => exact (cellO hblk _).trans rfl
  | 5, _ => exact (cellO hblk _).trans rfl
  | 6, _ => exact (cellO hblk _).trans rfl
  | 7, _ => exact (cellO hblk _).trans rfl
  | 8, _ => exact (cellO hblk _).trans rfl
theorem next70 : IsNext 100 (setS 100 (fun _ => false) 70 true) 4 70 := by
  refine Or.inr ⟨70, rfl, by omega, by omega, by simp [setS], fun j h1 h2 => ?_⟩
  unfold setS
  rw [if_neg (by omega)]
set_option maxRecDepth 100000 in
theorem awake_any (w : World) (hT : TabAt 0 Lib.deBruijn64tab w) :
    Calls Tryd.prog 8 #[] w fun e w' => e = .returned (.bool true) ∧ Below w.heap.size w w' := by
  have kc := fun (w : World) (C : Array Value) (n c : Nat) => Lib.run_convert_bytes_const (P := Tryd.prog) w 22 5 C n c Tryd.underlying22 Tryd.underlying5
  have hcrc := Lib.hid (show crc (nats nine) = 3421780262 by kernel_rfl)
  go_enter Tryd.func8, Tryd.ntmps8
  go_wp2_with fail
  refine (newBits_any 100 w).mono ?_
  rintro e w1 ⟨rfl, hb, hg⟩
  rw [show sizeZ 100 = 100 by rfl] at hb
  have HB := Lib.hid hb; have HG := Lib.hid hg; clear hb hg
  go_wp2_with fail
  refine (crc_any _ nine _ (bytesNine w1)).mono ?_
  rintro e w2 ⟨rfl, hg2⟩
  rw [hcrc.out]
  have HG2 := Lib.hid ((((Below.refl w1.heap.size w1).alloc (Nat.le_refl _) _).trans (hg2.mono (by simp)) : Below w1.heap.size w1 w2)); clear hg2
  go_wp2_with fail
  refine (put_any _ [] 258 2 w2 (bytes_none w2) (by simp)).mono ?_
  rintro e w3 ⟨v3, rfl, ho, hg3⟩
  obtain ⟨a3, c3, rfl⟩ := ownsB_shape ho
  have HG3 := Lib.hid (HG2.out.trans (hg3.mono HG2.out.size) : Below w1.heap.size w1 w3); clear hg3 ho
  have hl3 : ([] ++ leBytes 258 (clip8 2)).length = 2 := by rfl
  rw [hl3]
  have HB3 := Lib.hid (HB.out.later HG3.out)
  go_wp2_with fail
  refine (size_any _ _ _ _ _ HB3.out).mono ?_
  rintro e w4 ⟨rfl, rfl⟩
  go_wp2_with fail
  refine (set_any _ _ _ _ 70 true w4 HB3.out (Nat.le_trans HG.out.size HG3.out.size)).mono ?_
  rintro e w5 ⟨rfl, hb5, hg5⟩
  rw [show setB 100 (fun _ => false) 70 true = true by rfl]
  have HB5 := Lib.hid hb5; have HG5 := Lib.hid (HG.out.trans ((HG3.out.mono HG.out.size).trans hg5)); clear hb5 hg5
  go_wp2_with fail
  refine (next_any _ _ _ _ 4 w5 HB5.out (tab_later hT HG5.out)).mono ?_
  rintro e w6 ⟨r, rfl, hr, rfl⟩
  obtain rfl := hr.unique next70
  go_wp2_with fail
  go_ret
  exact ⟨rfl, HG5.out⟩
end Go.Proofs.YtffmkmhnhecmnaaDoor
