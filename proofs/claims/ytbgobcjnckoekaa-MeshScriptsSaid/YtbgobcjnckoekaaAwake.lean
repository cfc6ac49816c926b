/- What is proved: awake answers true. -/
import Derived.Test.YtbgobcjnckoekaaSend
namespace Go.Proofs.Ytbgobcjnckoekaa
open Go.RowKit
attribute [local go_sem] Pkt.val

def sx : ByteArray := ⟨#[120]⟩
def pk1 : Pkt := ⟨1, 1, 2, ⟨#[120]⟩⟩
def pk2 : Pkt := ⟨2, 1, 2, ⟨#[120]⟩⟩

def M0 : M := ⟨[], 0, fun _ _ => false⟩
def M1 : M := ⟨[pk1], 1, fun _ _ => false⟩
def M2 : M := ⟨[pk1, pk2], 2, fun _ _ => false⟩
def M3 : M := ⟨[pk1, pk2], 2, addCut (fun _ _ => false) (lo 2 1) (hi 2 1)⟩
def M4 : M := ⟨[pk1, pk2], 2, delCut M3.cuts (lo 1 2) (hi 1 2)⟩
def M5 : M := ⟨[pk2], 2, M4.cuts⟩

theorem a_send (w : World) (B a mb : Nat) (v : Value) (h : MeshAt w B a mb v M0) :
    Calls Try.prog 9 #[.pointer (some ⟨a, 0, none⟩), .int .i64 1, .int .i64 2, .string ⟨#[120]⟩] w fun e w' => e = .returned (.tuple #[.int .i64 1, .int .i64 0]) ∧
      (∃ v', MeshAt w' B a mb v' M1) ∧ Only (Foot a mb v) w w' :=
  (Send_some w B a mb v M0 1 2 ⟨#[120]⟩ h (by decide) (by decide) (by decide) (by decide)).mono fun _ _ ⟨h1, ⟨v', h2, _⟩, h3⟩ => ⟨h1, ⟨v', h2⟩, h3⟩
theorem a_double (w : World) (B a mb : Nat) (v : Value) (h : MeshAt w B a mb v M1) :
    Calls Try.prog 10 #[.pointer (some ⟨a, 0, none⟩), .int .i64 1] w fun e w' => e = .returned (.tuple #[.int .i64 2, .int .i64 0]) ∧
      (∃ v', MeshAt w' B a mb v' M2) ∧ Only (Foot a mb v) w w' :=
  (Double_some w B a mb v M1 1 0 h (by decide) (by decide) (by decide) (by decide) (by decide)).mono fun _ _ ⟨h1, ⟨v', h2, _⟩, h3⟩ => ⟨h1, ⟨v', h2⟩, h3⟩
theorem a_cut (w : World) (B a mb : Nat) (v : Value) (h : MeshAt w B a mb v M2) :
    Calls Try.prog 13 #[.pointer (some ⟨a, 0, none⟩), .int .i64 2, .int .i64 1] w fun e w' => e = .returned (.tuple #[]) ∧ MeshAt w' B a mb v M3 ∧ Only (Foot a mb v) w w' :=
  Cut_any w B a mb v M2 2 1 h
theorem a_deliver (w : World) (B a mb : Nat) (v : Value) (h : MeshAt w B a mb v M3) :
    Calls Try.prog 14 #[.pointer (some ⟨a, 0, none⟩), .int .i64 1] w fun e w' => e = .returned (.tuple #[zeroP.val, .bool false]) ∧ Below w.heap.size w w' :=
  Deliver_cut w B a mb v M3 1 0 h (by decide) (by decide) (by decide)
theorem a_join (w : World) (B a mb : Nat) (v : Value) (h : MeshAt w B a mb v M3) :
    Calls Try.prog 15 #[.pointer (some ⟨a, 0, none⟩), .int .i64 1, .int .i64 2] w fun e w' => e = .returned (.tuple #[]) ∧ MeshAt w' B a mb v M4 ∧ Only (Foot a mb v) w w' :=
  Join_any w B a mb v M3 1 2 h
theorem a_next (w : World) (B a mb : Nat) (v : Value) (h : MeshAt w B a mb v M4) :
    Calls Try.prog 11 #[.pointer (some ⟨a, 0, none⟩)] w fun e w' => e = .returned (.tuple #[pk1.val, .bool true]) ∧ (∃ v', MeshAt w' B a mb v' M5 ∧ v'.ownBlock = v.ownBlock) ∧ Only (Foot a mb v) w w' :=
  Next_some w B a mb v M4 0 h (by decide) (by decide)
theorem a_flight (w : World) (B a mb : Nat) (v : Value) (h : MeshAt w B a mb v M5) :
    Calls Try.prog 12 #[.pointer (some ⟨a, 0, none⟩)] w fun e w' => ∃ A' cap', e = .returned (.slice A' 1 cap') ∧ Below w.heap.size w w' :=
  (Flight_any w B a mb v M5 h (by decide)).mono fun _ _ ⟨A', c', h1, _, h3⟩ => ⟨A', c', h1, h3⟩
theorem al {w : World} (o : Obj) : Below w.heap.size w (w.alloc o) := (Below.refl _ _).alloc (Nat.le_refl _) o

set_option maxHeartbeats 4000000 in
theorem awake_any (w : World) : Calls Try.prog 7 #[] w fun e w' => e = .returned (.bool true) ∧ Below w.heap.size w w' := by
  go_enter Try.func7, Try.ntmps7
  go_wp2_with (first
    | (go_at_call 8
       refine (New_any _).mono ?_
       rintro e w1 ⟨rfl, hm1, hb1⟩
       have m1 := Lib.hid hm1; clear hm1)
    | (go_at_call 9
       refine (a_send w1 _ _ _ _ m1.out).mono ?_
       rintro e w2 ⟨rfl, hm2, ho2⟩
       obtain ⟨v2, hm2⟩ := hm2
       have hb2 := ho2.below hb1 m1.out.foot hb1.size
       have m2 := Lib.hid hm2; clear hm2)
    | (go_at_call 10
       refine (a_double w2 _ _ _ _ m2.out).mono ?_
       rintro e w3 ⟨rfl, hm3, ho3⟩
       obtain ⟨v3, hm3⟩ := hm3
       have hb3 := ho3.below hb2 m2.out.foot hb2.size
       have m3 := Lib.hid hm3; clear hm3)
    | (go_at_call 13
       refine (a_cut w3 _ _ _ _ m3.out).mono ?_
       rintro e w4 ⟨rfl, hm4, ho4⟩
       have hb4 := ho4.below hb3 m3.out.foot hb3.size
       have m4 := Lib.hid hm4; clear hm4)
    | (go_at_call 14
       refine (a_deliver w4 _ _ _ _ m4.out).mono ?_
       rintro e w5 ⟨rfl, hbb5⟩
       have hb5 := hb4.trans (hbb5.mono hb4.size)
       have m5 := Lib.hid (m4.out.below hbb5))
    | (go_at_call 15
       refine (a_join _ _ _ _ _ (m5.out.below (al _))).mono ?_
       rintro e w6 ⟨rfl, hm6, ho6⟩
       have hb6 := ho6.below (hb5.alloc hb5.size _) m5.out.foot (by have := hb5.size; simp; omega)
       have m6 := Lib.hid hm6; clear hm6)
    | (go_at_call 11
       refine (a_next w6 _ _ _ _ m6.out).mono ?_
       rintro e w7 ⟨rfl, hm7, ho7⟩
       obtain ⟨v7, hm7, hv7⟩ := hm7
       have hb7 := ho7.below hb6 m6.out.foot hb6.size
       have m7 := Lib.hid hm7; clear hm7 hv7)
    | (go_at_call 12
       refine (a_flight _ _ _ _ _ (m7.out.below (al _))).mono ?_
       rintro e w8 ⟨A8, c8, rfl, hbb8⟩
       have hb8 := (hb7.alloc hb7.size _).trans (hbb8.mono (by have := hb7.size; simp; omega))))
  · go_ret
    exact ⟨rfl, hb8⟩
  · have hx : pk1.body.toList = [120] := by rw [ByteArray.toList_eq]; rfl
    exact absurd hx (by assumption)
end Go.Proofs.Ytbgobcjnckoekaa
