/- The document's example of a digest: it is right. -/
import Derived.Test.YthkjfepbmnabkaaDoorAw2
namespace Go.Proofs.YthkjfepbmnabkaaDoor.Sx
open Go Sha
attribute [local irreducible] Calls

def x_user : ByteArray := ⟨#[77, 117, 102, 97, 115, 97]⟩
def x_realm : ByteArray := ⟨#[104, 116, 116, 112, 45, 97, 117, 116, 104, 64, 101, 120, 97, 109, 112, 108, 101, 46, 111, 114, 103]⟩
def x_pass : ByteArray := ⟨#[67, 105, 114, 99, 108, 101, 32, 111, 102, 32, 76, 105, 102, 101]⟩
def x_get : ByteArray := ⟨#[71, 69, 84]⟩
def x_uri : ByteArray := ⟨#[47, 100, 105, 114, 47, 105, 110, 100, 101, 120, 46, 104, 116, 109, 108]⟩
def x_nonce : ByteArray := ⟨#[55, 121, 112, 102, 47, 120, 108, 106, 57, 88, 88, 119, 102, 68, 80, 69, 111, 77, 52, 85, 82, 114, 118, 47, 120, 119, 102, 57, 52, 66, 99, 67, 65, 122, 70, 90, 72, 52, 71, 105, 84, 111, 48, 118]⟩
def x_cn : ByteArray := ⟨#[102, 50, 47, 119, 69, 52, 113, 55, 52, 69, 54, 122, 73, 74, 69, 116, 87, 97, 72, 75, 97, 102, 53, 119, 118, 47, 72, 53, 81, 122, 122, 112, 88, 117, 115, 113, 71, 101, 109, 120, 85, 82, 90, 74]⟩
def x_ha1 : List UInt8 := [121, 135, 198, 76, 48, 226, 95, 27, 116, 190, 83, 249, 102, 180, 155, 144, 242, 128, 138, 169, 47, 175, 154, 0, 38, 35, 146, 215, 180, 121, 66, 50]
def x_resp : List UInt8 := [117, 57, 39, 250, 14, 133, 209, 85, 86, 78, 46, 39, 42, 40, 209, 128, 44, 161, 13, 175, 68, 150, 121, 70, 151, 207, 141, 181, 133, 108, 182, 193]
def x_ans : AnsA := ⟨⟨#[]⟩, ⟨#[]⟩, x_nonce, x_uri, x_cn, ⟨#[]⟩, 1, .slice none 0 0⟩
theorem x_sum1 : Sha.sum (bl_ (joinB [x_user, x_realm, x_pass] colon)) = x_ha1 := by decide +kernel
theorem x_sum2 : Sha.sum (bl_ (respT x_ha1 x_get x_ans)) = x_resp := by decide +kernel
theorem x_size1 : (joinB [x_user, x_realm, x_pass] colon).size ≤ 100000 := by decide +kernel
theorem x_size2 : (joinB [x_get, x_uri] colon).size ≤ 100000 := by decide +kernel
theorem x_size3 : (respT x_ha1 x_get x_ans).size ≤ 100000 := by decide +kernel
theorem x_four : (x_resp.drop 0).take (4 - 0) = [117, 57, 39, 250] := by decide
theorem x_len : x_resp.length = 32 := by decide
theorem awake19_c (w : World) (h1 : (oddF 1).p w) (h0 : (firstF 0).p w) : Pu Tryd.prog n_ostiarylaw19_awake #[] w (.bool true) := by
  have g := good_ostiarylaw19_awake w (Un [])
  refine con_of_sx (cx := cx_ostiarylaw19_awake w (Un [])) g b_ostiarylaw19_awake rfl rfl (β := Va.z) [] 0 [] [oldF w] rfl rfl (old_sat rfl) ?_
  refine call_con [] (fun β w' hs => new_c w' false) ?_
  rintro v Fs ⟨b, m, rfl, rfl⟩
  refine draw_rule g p_ostiarylaw19_awake_3 (by kernel_rfl) [⟨0, 71, x_ans.sls⟩] [] (Sub.of (List.Sublist.refl _) (List.nil_sublist _)) ?_
  refine call_con [] (fun β w' hs => ha1_c w' b false (.slice none 0 0) (.map (some m)) x_user x_realm x_pass (hs.get 0 rfl) x_size1 (Rd.old h1 (hs.get 2 rfl)) (Rd.old h0 (hs.get 2 rfl))) ?_
  rintro v Fs ⟨A1, c1, rfl, q1, q2, rfl⟩
  rw [x_sum1]
  refine ⟨Sub.of (List.Sublist.refl _) (List.nil_sublist _), ?_⟩
  refine call_con [] (fun β w' hs => response_c w' b false (.slice none 0 0) (.map (some m)) A1 x_ha1 c1 x_get x_ans (hs.get 1 rfl) (row_rd (hs.get 0 rfl)) rfl (by decide) x_size2 x_size3 (Rd.old h1 (hs.get 3 rfl)) (Rd.old h0 (hs.get 3 rfl))) ?_
  rintro v Fs ⟨A2, c2, rfl, q3, q4, rfl⟩
  rw [x_sum2]
  refine ⟨Sub.of (List.Sublist.refl _) (List.nil_sublist _), ?_⟩
  refine ⟨c2, 4, 0, 4, c2, _, rfl, rfl, rfl, Nat.le_refl _, by omega, Nat.zero_le _, rfl, rfl, rfl, ?_⟩
  intro b5
  refine call_pu (fun β w' hs => pu_of (same_c w' (cutA A2 c2 0 1) (some ⟨b5, 0, none⟩) [117, 57, 39, 250] [117, 57, 39, 250] c2 4 (Bs.cutB (row_rd (hs.get 1 rfl)) q3 (Nat.zero_le 4) (by decide) x_four) (row_rd (hs.get 0 rfl)))) ?_
  intro β w' hs
  exact hs.fin [] ⟨rfl, rfl⟩
end Go.Proofs.YthkjfepbmnabkaaDoor.Sx
