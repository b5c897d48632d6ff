/- The book's kinds that hold no list. -/
import Derived.Test.YtkknklagoghljaaGreatDoorBase2
import Derived.WalkSmall
namespace Go.Proofs.YtkknklagoghljaaGreatDoor
open Go.RowKit
set_option maxRecDepth 100000 in
theorem stillNInts (w : World) (bk : Nat) (ad : Option Addr) (cap : Nat) (c0 : w.cell? ⟨bk, 0, none⟩ = some (.slice ad 0 cap)) (lB : bk < w.heap.size) :
    Calls Tryz.prog 55 #[.pointer (some ⟨bk, 0, none⟩)] w (fun e w' => e = .returned (.bool true) ∧ w' = w) := by
  go_enter Tryz.func55, Tryz.ntmps55
  go_wp2_with fail
  go_loopw [3] (fun i wr => i = .int .i64 0 ∧ wr = w) (fun _ _ => 0)
  case atStart => exact ⟨rfl, rfl⟩
  case round =>
    obtain ⟨rfl, rfl⟩ := hrel
    go_wp2_with fail
    go_ret
    exact ⟨rfl, rfl⟩
set_option maxRecDepth 100000 in
theorem putNInts (w : World) (bk : Nat) (ad : Option Addr) (cap : Nat) (c0 : w.cell? ⟨bk, 0, none⟩ = some (.slice ad 0 cap)) (lB : bk < w.heap.size) :
    Calls Tryz.prog 66 #[.pointer (some ⟨bk, 0, none⟩)] w (fun e w' => e = .returned (.tuple #[]) ∧ w' = w) := by
  go_enter Tryz.func66, Tryz.ntmps66
  go_wp2_with fail
  go_loopw [2] (fun i wr => i = .int .i64 0 ∧ wr = w) (fun _ _ => 0)
  case atStart => exact ⟨rfl, rfl⟩
  case round =>
    obtain ⟨rfl, rfl⟩ := hrel
    go_wp2_with fail
    go_end0
    exact ⟨rfl, rfl⟩
set_option maxRecDepth 100000 in
theorem growNInts (w : World) (bk : Nat) (ad : Option Addr) (cap : Nat) (c0 : w.cell? ⟨bk, 0, none⟩ = some (.slice ad 0 cap)) (lB : bk < w.heap.size) :
    Calls Tryz.prog 77 #[.pointer (some ⟨bk, 0, none⟩)] w (fun e w' => e = .returned (.slice none 0 0) ∧ w' = w) := by
  go_enter Tryz.func77, Tryz.ntmps77
  go_wp2_with fail
  go_loopw [3, 4] (fun o i wr => o = .slice none 0 0 ∧ i = .int .i64 0 ∧ wr = w) (fun _ _ _ => 0)
  case atStart => exact ⟨rfl, rfl, rfl⟩
  case round =>
    obtain ⟨rfl, rfl, rfl⟩ := hrel
    go_wp2_with fail
    go_ret
    exact ⟨rfl, rfl⟩
set_option maxRecDepth 100000 in
theorem markedNInts (w : World) (ad : Option Addr) (cap : Nat) :
    Calls Tryz.prog 88 #[.slice ad 0 cap] w (fun e w' => e = .returned (.bool true) ∧ w' = w) := by
  go_enter Tryz.func88, Tryz.ntmps88
  go_wp2_with fail
  go_loopw [3] (fun i wr => i = .int .i64 0 ∧ wr = w) (fun _ _ => 0)
  case atStart => exact ⟨rfl, rfl⟩
  case round =>
    obtain ⟨rfl, rfl⟩ := hrel
    go_wp2_with fail
    go_ret
    exact ⟨rfl, rfl⟩
set_option maxRecDepth 100000 in
theorem stillNTokens (w : World) (bk : Nat) (ad : Option Addr) (cap : Nat) (c0 : w.cell? ⟨bk, 2, none⟩ = some (.slice ad 0 cap)) (lB : bk < w.heap.size) :
    Calls Tryz.prog 56 #[.pointer (some ⟨bk, 0, none⟩)] w (fun e w' => e = .returned (.bool true) ∧ w' = w) := by
  go_enter Tryz.func56, Tryz.ntmps56
  go_wp2_with fail
  go_loopw [3] (fun i wr => i = .int .i64 0 ∧ wr = w) (fun _ _ => 0)
  case atStart => exact ⟨rfl, rfl⟩
  case round =>
    obtain ⟨rfl, rfl⟩ := hrel
    go_wp2_with fail
    go_ret
    exact ⟨rfl, rfl⟩
set_option maxRecDepth 100000 in
theorem putNTokens (w : World) (bk : Nat) (ad : Option Addr) (cap : Nat) (c0 : w.cell? ⟨bk, 2, none⟩ = some (.slice ad 0 cap)) (lB : bk < w.heap.size) :
    Calls Tryz.prog 67 #[.pointer (some ⟨bk, 0, none⟩)] w (fun e w' => e = .returned (.tuple #[]) ∧ w' = w) := by
  go_enter Tryz.func67, Tryz.ntmps67
  go_wp2_with fail
  go_loopw [2] (fun i wr => i = .int .i64 0 ∧ wr = w) (fun _ _ => 0)
  case atStart => exact ⟨rfl, rfl⟩
  case round =>
    obtain ⟨rfl, rfl⟩ := hrel
    go_wp2_with fail
    go_end0
    exact ⟨rfl, rfl⟩
set_option maxRecDepth 100000 in
theorem growNTokens (w : World) (bk : Nat) (ad : Option Addr) (cap : Nat) (c0 : w.cell? ⟨bk, 2, none⟩ = some (.slice ad 0 cap)) (lB : bk < w.heap.size) :
    Calls Tryz.prog 78 #[.pointer (some ⟨bk, 0, none⟩)] w (fun e w' => e = .returned (.slice none 0 0) ∧ w' = w) := by
  go_enter Tryz.func78, Tryz.ntmps78
  go_wp2_with fail
  go_loopw [3, 4] (fun o i wr => o = .slice none 0 0 ∧ i = .int .i64 0 ∧ wr = w) (fun _ _ _ => 0)
  case atStart => exact ⟨rfl, rfl, rfl⟩
  case round =>
    obtain ⟨rfl, rfl, rfl⟩ := hrel
    go_wp2_with fail
    go_ret
    exact ⟨rfl, rfl⟩
set_option maxRecDepth 100000 in
theorem markedNTokens (w : World) (ad : Option Addr) (cap : Nat) :
    Calls Tryz.prog 89 #[.slice ad 0 cap] w (fun e w' => e = .returned (.bool true) ∧ w' = w) := by
  go_enter Tryz.func89, Tryz.ntmps89
  go_wp2_with fail
  go_loopw [3] (fun i wr => i = .int .i64 0 ∧ wr = w) (fun _ _ => 0)
  case atStart => exact ⟨rfl, rfl⟩
  case round =>
    obtain ⟨rfl, rfl⟩ := hrel
    go_wp2_with fail
    go_ret
    exact ⟨rfl, rfl⟩
set_option maxRecDepth 100000 in
theorem stillNTexts (w : World) (bk : Nat) (ad : Option Addr) (cap : Nat) (c0 : w.cell? ⟨bk, 4, none⟩ = some (.slice ad 0 cap)) (lB : bk < w.heap.size) :
    Calls Tryz.prog 57 #[.pointer (some ⟨bk, 0, none⟩)] w (fun e w' => e = .returned (.bool true) ∧ w' = w) := by
  go_enter Tryz.func57, Tryz.ntmps57
  go_wp2_with fail
  go_loopw [3] (fun i wr => i = .int .i64 0 ∧ wr = w) (fun _ _ => 0)
  case atStart => exact ⟨rfl, rfl⟩
  case round =>
    obtain ⟨rfl, rfl⟩ := hrel
    go_wp2_with fail
    go_ret
    exact ⟨rfl, rfl⟩
set_option maxRecDepth 100000 in
theorem putNTexts (w : World) (bk : Nat) (ad : Option Addr) (cap : Nat) (c0 : w.cell? ⟨bk, 4, none⟩ = some (.slice ad 0 cap)) (lB : bk < w.heap.size) :
    Calls Tryz.prog 68 #[.pointer (some ⟨bk, 0, none⟩)] w (fun e w' => e = .returned (.tuple #[]) ∧ w' = w) := by
  go_enter Tryz.func68, Tryz.ntmps68
  go_wp2_with fail
  go_loopw [2] (fun i wr => i = .int .i64 0 ∧ wr = w) (fun _ _ => 0)
  case atStart => exact ⟨rfl, rfl⟩
  case round =>
    obtain ⟨rfl, rfl⟩ := hrel
    go_wp2_with fail
    go_end0
    exact ⟨rfl, rfl⟩
set_option maxRecDepth 100000 in
theorem growNTexts (w : World) (bk : Nat) (ad : Option Addr) (cap : Nat) (c0 : w.cell? ⟨bk, 4, none⟩ = some (.slice ad 0 cap)) (lB : bk < w.heap.size) :
    Calls Tryz.prog 79 #[.pointer (some ⟨bk, 0, none⟩)] w (fun e w' => e = .returned (.slice none 0 0) ∧ w' = w) := by
  go_enter Tryz.func79, Tryz.ntmps79
  go_wp2_with fail
  go_loopw [3, 4] (fun o i wr => o = .slice none 0 0 ∧ i = .int .i64 0 ∧ wr = w) (fun _ _ _ => 0)
  case atStart => exact ⟨rfl, rfl, rfl⟩
  case round =>
    obtain ⟨rfl, rfl, rfl⟩ := hrel
    go_wp2_with fail
    go_ret
    exact ⟨rfl, rfl⟩
set_option maxRecDepth 100000 in
theorem markedNTexts (w : World) (ad : Option Addr) (cap : Nat) :
    Calls Tryz.prog 90 #[.slice ad 0 cap] w (fun e w' => e = .returned (.bool true) ∧ w' = w) := by
  go_enter Tryz.func90, Tryz.ntmps90
  go_wp2_with fail
  go_loopw [3] (fun i wr => i = .int .i64 0 ∧ wr = w) (fun _ _ => 0)
  case atStart => exact ⟨rfl, rfl⟩
  case round =>
    obtain ⟨rfl, rfl⟩ := hrel
    go_wp2_with fail
    go_ret
    exact ⟨rfl, rfl⟩
set_option maxRecDepth 100000 in
theorem stillNBools (w : World) (bk : Nat) (ad : Option Addr) (cap : Nat) (c0 : w.cell? ⟨bk, 6, none⟩ = some (.slice ad 0 cap)) (lB : bk < w.heap.size) :
    Calls Tryz.prog 58 #[.pointer (some ⟨bk, 0, none⟩)] w (fun e w' => e = .returned (.bool true) ∧ w' = w) := by
  go_enter Tryz.func58, Tryz.ntmps58
  go_wp2_with fail
  go_loopw [3] (fun i wr => i = .int .i64 0 ∧ wr = w) (fun _ _ => 0)
  case atStart => exact ⟨rfl, rfl⟩
  case round =>
    obtain ⟨rfl, rfl⟩ := hrel
    go_wp2_with fail
    go_ret
    exact ⟨rfl, rfl⟩
set_option maxRecDepth 100000 in
theorem putNBools (w : World) (bk : Nat) (ad : Option Addr) (cap : Nat) (c0 : w.cell? ⟨bk, 6, none⟩ = some (.slice ad 0 cap)) (lB : bk < w.heap.size) :
    Calls Tryz.prog 69 #[.pointer (some ⟨bk, 0, none⟩)] w (fun e w' => e = .returned (.tuple #[]) ∧ w' = w) := by
  go_enter Tryz.func69, Tryz.ntmps69
  go_wp2_with fail
  go_loopw [2] (fun i wr => i = .int .i64 0 ∧ wr = w) (fun _ _ => 0)
  case atStart => exact ⟨rfl, rfl⟩
  case round =>
    obtain ⟨rfl, rfl⟩ := hrel
    go_wp2_with fail
    go_end0
    exact ⟨rfl, rfl⟩
set_option maxRecDepth 100000 in
theorem growNBools (w : World) (bk : Nat) (ad : Option Addr) (cap : Nat) (c0 : w.cell? ⟨bk, 6, none⟩ = some (.slice ad 0 cap)) (lB : bk < w.heap.size) :
    Calls Tryz.prog 80 #[.pointer (some ⟨bk, 0, none⟩)] w (fun e w' => e = .returned (.slice none 0 0) ∧ w' = w) := by
  go_enter Tryz.func80, Tryz.ntmps80
  go_wp2_with fail
  go_loopw [3, 4] (fun o i wr => o = .slice none 0 0 ∧ i = .int .i64 0 ∧ wr = w) (fun _ _ _ => 0)
  case atStart => exact ⟨rfl, rfl, rfl⟩
  case round =>
    obtain ⟨rfl, rfl, rfl⟩ := hrel
    go_wp2_with fail
    go_ret
    exact ⟨rfl, rfl⟩
set_option maxRecDepth 100000 in
theorem markedNBools (w : World) (ad : Option Addr) (cap : Nat) :
    Calls Tryz.prog 91 #[.slice ad 0 cap] w (fun e w' => e = .returned (.bool true) ∧ w' = w) := by
  go_enter Tryz.func91, Tryz.ntmps91
  go_wp2_with fail
  go_loopw [3] (fun i wr => i = .int .i64 0 ∧ wr = w) (fun _ _ => 0)
  case atStart => exact ⟨rfl, rfl⟩
  case round =>
    obtain ⟨rfl, rfl⟩ := hrel
    go_wp2_with fail
    go_ret
    exact ⟨rfl, rfl⟩
set_option maxRecDepth 100000 in
theorem stillNSteps (w : World) (bk : Nat) (ad : Option Addr) (cap : Nat) (c0 : w.cell? ⟨bk, 8, none⟩ = some (.slice ad 0 cap)) (lB : bk < w.heap.size) :
    Calls Tryz.prog 59 #[.pointer (some ⟨bk, 0, none⟩)] w (fun e w' => e = .returned (.bool true) ∧ w' = w) := by
  go_enter Tryz.func59, Tryz.ntmps59
  go_wp2_with fail
  go_loopw [3] (fun i wr => i = .int .i64 0 ∧ wr = w) (fun _ _ => 0)
  case atStart => exact ⟨rfl, rfl⟩
  case round =>
    obtain ⟨rfl, rfl⟩ := hrel
    go_wp2_with fail
    go_ret
    exact ⟨rfl, rfl⟩
set_option maxRecDepth 100000 in
theorem putNSteps (w : World) (bk : Nat) (ad : Option Addr) (cap : Nat) (c0 : w.cell? ⟨bk, 8, none⟩ = some (.slice ad 0 cap)) (lB : bk < w.heap.size) :
    Calls Tryz.prog 70 #[.pointer (some ⟨bk, 0, none⟩)] w (fun e w' => e = .returned (.tuple #[]) ∧ w' = w) := by
  go_enter Tryz.func70, Tryz.ntmps70
  go_wp2_with fail
  go_loopw [2] (fun i wr => i = .int .i64 0 ∧ wr = w) (fun _ _ => 0)
  case atStart => exact ⟨rfl, rfl⟩
  case round =>
    obtain ⟨rfl, rfl⟩ := hrel
    go_wp2_with fail
    go_end0
    exact ⟨rfl, rfl⟩
set_option maxRecDepth 100000 in
theorem growNSteps (w : World) (bk : Nat) (ad : Option Addr) (cap : Nat) (c0 : w.cell? ⟨bk, 8, none⟩ = some (.slice ad 0 cap)) (lB : bk < w.heap.size) :
    Calls Tryz.prog 81 #[.pointer (some ⟨bk, 0, none⟩)] w (fun e w' => e = .returned (.slice none 0 0) ∧ w' = w) := by
  go_enter Tryz.func81, Tryz.ntmps81
  go_wp2_with fail
  go_loopw [3, 4] (fun o i wr => o = .slice none 0 0 ∧ i = .int .i64 0 ∧ wr = w) (fun _ _ _ => 0)
  case atStart => exact ⟨rfl, rfl, rfl⟩
  case round =>
    obtain ⟨rfl, rfl, rfl⟩ := hrel
    go_wp2_with fail
    go_ret
    exact ⟨rfl, rfl⟩
set_option maxRecDepth 100000 in
theorem markedNSteps (w : World) (ad : Option Addr) (cap : Nat) :
    Calls Tryz.prog 92 #[.slice ad 0 cap] w (fun e w' => e = .returned (.bool true) ∧ w' = w) := by
  go_enter Tryz.func92, Tryz.ntmps92
  go_wp2_with fail
  go_loopw [3] (fun i wr => i = .int .i64 0 ∧ wr = w) (fun _ _ => 0)
  case atStart => exact ⟨rfl, rfl⟩
  case round =>
    obtain ⟨rfl, rfl⟩ := hrel
    go_wp2_with fail
    go_ret
    exact ⟨rfl, rfl⟩
set_option maxRecDepth 100000 in
theorem stillNEdges (w : World) (bk : Nat) (ad : Option Addr) (cap : Nat) (c0 : w.cell? ⟨bk, 10, none⟩ = some (.slice ad 0 cap)) (lB : bk < w.heap.size) :
    Calls Tryz.prog 60 #[.pointer (some ⟨bk, 0, none⟩)] w (fun e w' => e = .returned (.bool true) ∧ w' = w) := by
  go_enter Tryz.func60, Tryz.ntmps60
  go_wp2_with fail
  go_loopw [3] (fun i wr => i = .int .i64 0 ∧ wr = w) (fun _ _ => 0)
  case atStart => exact ⟨rfl, rfl⟩
  case round =>
    obtain ⟨rfl, rfl⟩ := hrel
    go_wp2_with fail
    go_ret
    exact ⟨rfl, rfl⟩
set_option maxRecDepth 100000 in
theorem putNEdges (w : World) (bk : Nat) (ad : Option Addr) (cap : Nat) (c0 : w.cell? ⟨bk, 10, none⟩ = some (.slice ad 0 cap)) (lB : bk < w.heap.size) :
    Calls Tryz.prog 71 #[.pointer (some ⟨bk, 0, none⟩)] w (fun e w' => e = .returned (.tuple #[]) ∧ w' = w) := by
  go_enter Tryz.func71, Tryz.ntmps71
  go_wp2_with fail
  go_loopw [2] (fun i wr => i = .int .i64 0 ∧ wr = w) (fun _ _ => 0)
  case atStart => exact ⟨rfl, rfl⟩
  case round =>
    obtain ⟨rfl, rfl⟩ := hrel
    go_wp2_with fail
    go_end0
    exact ⟨rfl, rfl⟩
set_option maxRecDepth 100000 in
theorem growNEdges (w : World) (bk : Nat) (ad : Option Addr) (cap : Nat) (c0 : w.cell? ⟨bk, 10, none⟩ = some (.slice ad 0 cap)) (lB : bk < w.heap.size) :
    Calls Tryz.prog 82 #[.pointer (some ⟨bk, 0, none⟩)] w (fun e w' => e = .returned (.slice none 0 0) ∧ w' = w) := by
  go_enter Tryz.func82, Tryz.ntmps82
  go_wp2_with fail
  go_loopw [3, 4] (fun o i wr => o = .slice none 0 0 ∧ i = .int .i64 0 ∧ wr = w) (fun _ _ _ => 0)
  case atStart => exact ⟨rfl, rfl, rfl⟩
  case round =>
    obtain ⟨rfl, rfl, rfl⟩ := hrel
    go_wp2_with fail
    go_ret
    exact ⟨rfl, rfl⟩
set_option maxRecDepth 100000 in
theorem markedNEdges (w : World) (ad : Option Addr) (cap : Nat) :
    Calls Tryz.prog 93 #[.slice ad 0 cap] w (fun e w' => e = .returned (.bool true) ∧ w' = w) := by
  go_enter Tryz.func93, Tryz.ntmps93
  go_wp2_with fail
  go_loopw [3] (fun i wr => i = .int .i64 0 ∧ wr = w) (fun _ _ => 0)
  case atStart => exact ⟨rfl, rfl⟩
  case round =>
    obtain ⟨rfl, rfl⟩ := hrel
    go_wp2_with fail
    go_ret
    exact ⟨rfl, rfl⟩
set_option maxRecDepth 100000 in
theorem stillNNodes (w : World) (bk : Nat) (ad : Option Addr) (cap : Nat) (c0 : w.cell? ⟨bk, 12, none⟩ = some (.slice ad 0 cap)) (lB : bk < w.heap.size) :
    Calls Tryz.prog 61 #[.pointer (some ⟨bk, 0, none⟩)] w (fun e w' => e = .returned (.bool true) ∧ w' = w) := by
  go_enter Tryz.func61, Tryz.ntmps61
  go_wp2_with fail
  go_loopw [3] (fun i wr => i = .int .i64 0 ∧ wr = w) (fun _ _ => 0)
  case atStart => exact ⟨rfl, rfl⟩
  case round =>
    obtain ⟨rfl, rfl⟩ := hrel
    go_wp2_with fail
    go_ret
    exact ⟨rfl, rfl⟩
set_option maxRecDepth 100000 in
theorem putNNodes (w : World) (bk : Nat) (ad : Option Addr) (cap : Nat) (c0 : w.cell? ⟨bk, 12, none⟩ = some (.slice ad 0 cap)) (lB : bk < w.heap.size) :
    Calls Tryz.prog 72 #[.pointer (some ⟨bk, 0, none⟩)] w (fun e w' => e = .returned (.tuple #[]) ∧ w' = w) := by
  go_enter Tryz.func72, Tryz.ntmps72
  go_wp2_with fail
  go_loopw [2] (fun i wr => i = .int .i64 0 ∧ wr = w) (fun _ _ => 0)
  case atStart => exact ⟨rfl, rfl⟩
  case round =>
    obtain ⟨rfl, rfl⟩ := hrel
    go_wp2_with fail
    go_end0
    exact ⟨rfl, rfl⟩
set_option maxRecDepth 100000 in
theorem growNNodes (w : World) (bk : Nat) (ad : Option Addr) (cap : Nat) (c0 : w.cell? ⟨bk, 12, none⟩ = some (.slice ad 0 cap)) (lB : bk < w.heap.size) :
    Calls Tryz.prog 83 #[.pointer (some ⟨bk, 0, none⟩)] w (fun e w' => e = .returned (.slice none 0 0) ∧ w' = w) := by
  go_enter Tryz.func83, Tryz.ntmps83
  go_wp2_with fail
  go_loopw [3, 4] (fun o i wr => o = .slice none 0 0 ∧ i = .int .i64 0 ∧ wr = w) (fun _ _ _ => 0)
  case atStart => exact ⟨rfl, rfl, rfl⟩
  case round =>
    obtain ⟨rfl, rfl, rfl⟩ := hrel
    go_wp2_with fail
    go_ret
    exact ⟨rfl, rfl⟩
set_option maxRecDepth 100000 in
theorem markedNNodes (w : World) (ad : Option Addr) (cap : Nat) :
    Calls Tryz.prog 94 #[.slice ad 0 cap] w (fun e w' => e = .returned (.bool true) ∧ w' = w) := by
  go_enter Tryz.func94, Tryz.ntmps94
  go_wp2_with fail
  go_loopw [3] (fun i wr => i = .int .i64 0 ∧ wr = w) (fun _ _ => 0)
  case atStart => exact ⟨rfl, rfl⟩
  case round =>
    obtain ⟨rfl, rfl⟩ := hrel
    go_wp2_with fail
    go_ret
    exact ⟨rfl, rfl⟩
set_option maxRecDepth 100000 in
theorem stillNPairs (w : World) (bk : Nat) (ad : Option Addr) (cap : Nat) (c0 : w.cell? ⟨bk, 14, none⟩ = some (.slice ad 0 cap)) (lB : bk < w.heap.size) :
    Calls Tryz.prog 62 #[.pointer (some ⟨bk, 0, none⟩)] w (fun e w' => e = .returned (.bool true) ∧ w' = w) := by
  go_enter Tryz.func62, Tryz.ntmps62
  go_wp2_with fail
  go_loopw [3] (fun i wr => i = .int .i64 0 ∧ wr = w) (fun _ _ => 0)
  case atStart => exact ⟨rfl, rfl⟩
  case round =>
    obtain ⟨rfl, rfl⟩ := hrel
    go_wp2_with fail
    go_ret
    exact ⟨rfl, rfl⟩
set_option maxRecDepth 100000 in
theorem putNPairs (w : World) (bk : Nat) (ad : Option Addr) (cap : Nat) (c0 : w.cell? ⟨bk, 14, none⟩ = some (.slice ad 0 cap)) (lB : bk < w.heap.size) :
    Calls Tryz.prog 73 #[.pointer (some ⟨bk, 0, none⟩)] w (fun e w' => e = .returned (.tuple #[]) ∧ w' = w) := by
  go_enter Tryz.func73, Tryz.ntmps73
  go_wp2_with fail
  go_loopw [2] (fun i wr => i = .int .i64 0 ∧ wr = w) (fun _ _ => 0)
  case atStart => exact ⟨rfl, rfl⟩
  case round =>
    obtain ⟨rfl, rfl⟩ := hrel
    go_wp2_with fail
    go_end0
    exact ⟨rfl, rfl⟩
set_option maxRecDepth 100000 in
theorem growNPairs (w : World) (bk : Nat) (ad : Option Addr) (cap : Nat) (c0 : w.cell? ⟨bk, 14, none⟩ = some (.slice ad 0 cap)) (lB : bk < w.heap.size) :
    Calls Tryz.prog 84 #[.pointer (some ⟨bk, 0, none⟩)] w (fun e w' => e = .returned (.slice none 0 0) ∧ w' = w) := by
  go_enter Tryz.func84, Tryz.ntmps84
  go_wp2_with fail
  go_loopw [3, 4] (fun o i wr => o = .slice none 0 0 ∧ i = .int .i64 0 ∧ wr = w) (fun _ _ _ => 0)
  case atStart => exact ⟨rfl, rfl, rfl⟩
  case round =>
    obtain ⟨rfl, rfl, rfl⟩ := hrel
    go_wp2_with fail
    go_ret
    exact ⟨rfl, rfl⟩
set_option maxRecDepth 100000 in
theorem markedNPairs (w : World) (ad : Option Addr) (cap : Nat) :
    Calls Tryz.prog 95 #[.slice ad 0 cap] w (fun e w' => e = .returned (.bool true) ∧ w' = w) := by
  go_enter Tryz.func95, Tryz.ntmps95
  go_wp2_with fail
  go_loopw [3] (fun i wr => i = .int .i64 0 ∧ wr = w) (fun _ _ => 0)
  case atStart => exact ⟨rfl, rfl⟩
  case round =>
    obtain ⟨rfl, rfl⟩ := hrel
    go_wp2_with fail
    go_ret
    exact ⟨rfl, rfl⟩
set_option maxRecDepth 100000 in
theorem stillNRows (w : World) (bk : Nat) (ad : Option Addr) (cap : Nat) (c0 : w.cell? ⟨bk, 16, none⟩ = some (.slice ad 0 cap)) (lB : bk < w.heap.size) :
    Calls Tryz.prog 63 #[.pointer (some ⟨bk, 0, none⟩)] w (fun e w' => e = .returned (.bool true) ∧ w' = w) := by
  go_enter Tryz.func63, Tryz.ntmps63
  go_wp2_with fail
  go_loopw [3] (fun i wr => i = .int .i64 0 ∧ wr = w) (fun _ _ => 0)
  case atStart => exact ⟨rfl, rfl⟩
  case round =>
    obtain ⟨rfl, rfl⟩ := hrel
    go_wp2_with fail
    go_ret
    exact ⟨rfl, rfl⟩
set_option maxRecDepth 100000 in
theorem putNRows (w : World) (bk : Nat) (ad : Option Addr) (cap : Nat) (c0 : w.cell? ⟨bk, 16, none⟩ = some (.slice ad 0 cap)) (lB : bk < w.heap.size) :
    Calls Tryz.prog 74 #[.pointer (some ⟨bk, 0, none⟩)] w (fun e w' => e = .returned (.tuple #[]) ∧ w' = w) := by
  go_enter Tryz.func74, Tryz.ntmps74
  go_wp2_with fail
  go_loopw [2] (fun i wr => i = .int .i64 0 ∧ wr = w) (fun _ _ => 0)
  case atStart => exact ⟨rfl, rfl⟩
  case round =>
    obtain ⟨rfl, rfl⟩ := hrel
    go_wp2_with fail
    go_end0
    exact ⟨rfl, rfl⟩
set_option maxRecDepth 100000 in
theorem growNRows (w : World) (bk : Nat) (ad : Option Addr) (cap : Nat) (c0 : w.cell? ⟨bk, 16, none⟩ = some (.slice ad 0 cap)) (lB : bk < w.heap.size) :
    Calls Tryz.prog 85 #[.pointer (some ⟨bk, 0, none⟩)] w (fun e w' => e = .returned (.slice none 0 0) ∧ w' = w) := by
  go_enter Tryz.func85, Tryz.ntmps85
  go_wp2_with fail
  go_loopw [3, 4] (fun o i wr => o = .slice none 0 0 ∧ i = .int .i64 0 ∧ wr = w) (fun _ _ _ => 0)
  case atStart => exact ⟨rfl, rfl, rfl⟩
  case round =>
    obtain ⟨rfl, rfl, rfl⟩ := hrel
    go_wp2_with fail
    go_ret
    exact ⟨rfl, rfl⟩
set_option maxRecDepth 100000 in
theorem markedNRows (w : World) (ad : Option Addr) (cap : Nat) :
    Calls Tryz.prog 96 #[.slice ad 0 cap] w (fun e w' => e = .returned (.bool true) ∧ w' = w) := by
  go_enter Tryz.func96, Tryz.ntmps96
  go_wp2_with fail
  go_loopw [3] (fun i wr => i = .int .i64 0 ∧ wr = w) (fun _ _ => 0)
  case atStart => exact ⟨rfl, rfl⟩
  case round =>
    obtain ⟨rfl, rfl⟩ := hrel
    go_wp2_with fail
    go_ret
    exact ⟨rfl, rfl⟩
set_option maxRecDepth 100000 in
theorem stillNLines (w : World) (bk : Nat) (ad : Option Addr) (cap : Nat) (c0 : w.cell? ⟨bk, 18, none⟩ = some (.slice ad 0 cap)) (lB : bk < w.heap.size) :
    Calls Tryz.prog 64 #[.pointer (some ⟨bk, 0, none⟩)] w (fun e w' => e = .returned (.bool true) ∧ w' = w) := by
  go_enter Tryz.func64, Tryz.ntmps64
  go_wp2_with fail
  go_loopw [3] (fun i wr => i = .int .i64 0 ∧ wr = w) (fun _ _ => 0)
  case atStart => exact ⟨rfl, rfl⟩
  case round =>
    obtain ⟨rfl, rfl⟩ := hrel
    go_wp2_with fail
    go_ret
    exact ⟨rfl, rfl⟩
set_option maxRecDepth 100000 in
theorem putNLines (w : World) (bk : Nat) (ad : Option Addr) (cap : Nat) (c0 : w.cell? ⟨bk, 18, none⟩ = some (.slice ad 0 cap)) (lB : bk < w.heap.size) :
    Calls Tryz.prog 75 #[.pointer (some ⟨bk, 0, none⟩)] w (fun e w' => e = .returned (.tuple #[]) ∧ w' = w) := by
  go_enter Tryz.func75, Tryz.ntmps75
  go_wp2_with fail
  go_loopw [2] (fun i wr => i = .int .i64 0 ∧ wr = w) (fun _ _ => 0)
  case atStart => exact ⟨rfl, rfl⟩
  case round =>
    obtain ⟨rfl, rfl⟩ := hrel
    go_wp2_with fail
    go_end0
    exact ⟨rfl, rfl⟩
set_option maxRecDepth 100000 in
theorem growNLines (w : World) (bk : Nat) (ad : Option Addr) (cap : Nat) (c0 : w.cell? ⟨bk, 18, none⟩ = some (.slice ad 0 cap)) (lB : bk < w.heap.size) :
    Calls Tryz.prog 86 #[.pointer (some ⟨bk, 0, none⟩)] w (fun e w' => e = .returned (.slice none 0 0) ∧ w' = w) := by
  go_enter Tryz.func86, Tryz.ntmps86
  go_wp2_with fail
  go_loopw [3, 4] (fun o i wr => o = .slice none 0 0 ∧ i = .int .i64 0 ∧ wr = w) (fun _ _ _ => 0)
  case atStart => exact ⟨rfl, rfl, rfl⟩
  case round =>
    obtain ⟨rfl, rfl, rfl⟩ := hrel
    go_wp2_with fail
    go_ret
    exact ⟨rfl, rfl⟩
set_option maxRecDepth 100000 in
theorem markedNLines (w : World) (ad : Option Addr) (cap : Nat) :
    Calls Tryz.prog 97 #[.slice ad 0 cap] w (fun e w' => e = .returned (.bool true) ∧ w' = w) := by
  go_enter Tryz.func97, Tryz.ntmps97
  go_wp2_with fail
  go_loopw [3] (fun i wr => i = .int .i64 0 ∧ wr = w) (fun _ _ => 0)
  case atStart => exact ⟨rfl, rfl⟩
  case round =>
    obtain ⟨rfl, rfl⟩ := hrel
    go_wp2_with fail
    go_ret
    exact ⟨rfl, rfl⟩
set_option maxRecDepth 100000 in
theorem stillNWalks (w : World) (bk : Nat) (ad : Option Addr) (cap : Nat) (c0 : w.cell? ⟨bk, 20, none⟩ = some (.slice ad 0 cap)) (lB : bk < w.heap.size) :
    Calls Tryz.prog 65 #[.pointer (some ⟨bk, 0, none⟩)] w (fun e w' => e = .returned (.bool true) ∧ w' = w) := by
  go_enter Tryz.func65, Tryz.ntmps65
  go_wp2_with fail
  go_loopw [3] (fun i wr => i = .int .i64 0 ∧ wr = w) (fun _ _ => 0)
  case atStart => exact ⟨rfl, rfl⟩
  case round =>
    obtain ⟨rfl, rfl⟩ := hrel
    go_wp2_with fail
    go_ret
    exact ⟨rfl, rfl⟩
set_option maxRecDepth 100000 in
theorem putNWalks (w : World) (bk : Nat) (ad : Option Addr) (cap : Nat) (c0 : w.cell? ⟨bk, 20, none⟩ = some (.slice ad 0 cap)) (lB : bk < w.heap.size) :
    Calls Tryz.prog 76 #[.pointer (some ⟨bk, 0, none⟩)] w (fun e w' => e = .returned (.tuple #[]) ∧ w' = w) := by
  go_enter Tryz.func76, Tryz.ntmps76
  go_wp2_with fail
  go_loopw [2] (fun i wr => i = .int .i64 0 ∧ wr = w) (fun _ _ => 0)
  case atStart => exact ⟨rfl, rfl⟩
  case round =>
    obtain ⟨rfl, rfl⟩ := hrel
    go_wp2_with fail
    go_end0
    exact ⟨rfl, rfl⟩
set_option maxRecDepth 100000 in
theorem growNWalks (w : World) (bk : Nat) (ad : Option Addr) (cap : Nat) (c0 : w.cell? ⟨bk, 20, none⟩ = some (.slice ad 0 cap)) (lB : bk < w.heap.size) :
    Calls Tryz.prog 87 #[.pointer (some ⟨bk, 0, none⟩)] w (fun e w' => e = .returned (.slice none 0 0) ∧ w' = w) := by
  go_enter Tryz.func87, Tryz.ntmps87
  go_wp2_with fail
  go_loopw [3, 4] (fun o i wr => o = .slice none 0 0 ∧ i = .int .i64 0 ∧ wr = w) (fun _ _ _ => 0)
  case atStart => exact ⟨rfl, rfl, rfl⟩
  case round =>
    obtain ⟨rfl, rfl, rfl⟩ := hrel
    go_wp2_with fail
    go_ret
    exact ⟨rfl, rfl⟩
set_option maxRecDepth 100000 in
theorem markedNWalks (w : World) (ad : Option Addr) (cap : Nat) :
    Calls Tryz.prog 98 #[.slice ad 0 cap] w (fun e w' => e = .returned (.bool true) ∧ w' = w) := by
  go_enter Tryz.func98, Tryz.ntmps98
  go_wp2_with fail
  go_loopw [3] (fun i wr => i = .int .i64 0 ∧ wr = w) (fun _ _ => 0)
  case atStart => exact ⟨rfl, rfl⟩
  case round =>
    obtain ⟨rfl, rfl⟩ := hrel
    go_wp2_with fail
    go_ret
    exact ⟨rfl, rfl⟩
end Go.Proofs.YtkknklagoghljaaGreatDoor
