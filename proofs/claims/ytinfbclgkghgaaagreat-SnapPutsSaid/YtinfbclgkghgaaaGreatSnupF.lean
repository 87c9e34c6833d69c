/- A part of the proof. -/
import Derived.Test.YtinfbclgkghgaaaGreatProg
import Derived.Test.YtinfbclgkghgaaaGreatSnupE
/- The program's types,as the abstract layer wants them. -/
namespace Go.Proofs.YtinfbclgkghgaaaGreat.AL
open Go Go.Proofs
def u0d:V4:=fun t=>match t with
 |1=>some ⟨.func,1,8,[.nilFunc]⟩
 |2=>some ⟨.int .i64,1,8,[(.int .i64 0)]⟩
 |3=>some ⟨.int .i64,1,8,[(.int .i64 0)]⟩
 |4=>some ⟨.bool,1,1,[(.bool false)]⟩
 |5=>some ⟨.int .u8,1,1,[(.int .u8 0)]⟩
 |9=>some ⟨.string,1,16,[(.string ⟨#[]⟩)]⟩
 |12=>some ⟨.int .u64,1,8,[(.int .u64 0)]⟩
 |17=>some ⟨.ptr 255,1,8,[(.pointer none)]⟩
 |21=>some ⟨.int .i32,1,4,[(.int .i32 0)]⟩
 |22=>some ⟨.struct [(0,3),(1,3),(2,3),(3,3)],4,32,[(.int .i64 0),(.int .i64 0),(.int .i64 0),(.int .i64 0)]⟩
 |23=>some ⟨.struct [(0,3),(1,3),(2,3),(3,3)],4,32,[(.int .i64 0),(.int .i64 0),(.int .i64 0),(.int .i64 0)]⟩
 |24=>some ⟨.slice 5,1,24,[(.slice none 0 0)]⟩
 |25=>some ⟨.func,1,8,[.nilFunc]⟩
 |26=>some ⟨.func,1,8,[.nilFunc]⟩
 |27=>some ⟨.int .i64,1,8,[(.int .i64 0)]⟩
 |29=>some ⟨.func,1,8,[.nilFunc]⟩
 |_=>none
def u0e:V4:=fun t=>match t with
 |30=>some ⟨.slice 35,1,24,[(.slice none 0 0)]⟩
 |32=>some ⟨.func,1,8,[.nilFunc]⟩
 |33=>some ⟨.func,1,8,[.nilFunc]⟩
 |34=>some ⟨.struct [(0,3),(1,24)],2,32,[(.int .i64 0),(.slice none 0 0)]⟩
 |35=>some ⟨.struct [(0,3),(1,24)],2,32,[(.int .i64 0),(.slice none 0 0)]⟩
 |36=>some ⟨.func,1,8,[.nilFunc]⟩
 |37=>some ⟨.slice 24,1,24,[(.slice none 0 0)]⟩
 |39=>some ⟨.func,1,8,[.nilFunc]⟩
 |40=>some ⟨.func,1,8,[.nilFunc]⟩
 |41=>some ⟨.func,1,8,[.nilFunc]⟩
 |42=>some ⟨.slice 4,1,24,[(.slice none 0 0)]⟩
 |43=>some ⟨.array 4 5,4,4,[(.int .u8 0),(.int .u8 0),(.int .u8 0),(.int .u8 0)]⟩
 |44=>some ⟨.struct [(0,3),(1,3),(2,3),(3,3),(4,3),(5,43)],9,48,[(.int .i64 0),(.int .i64 0),(.int .i64 0),(.int .i64 0),(.int .i64 0),(.int .u8 0),(.int .u8 0),(.int .u8 0),(.int .u8 0)]⟩
 |45=>some ⟨.struct [(0,3),(1,3),(2,3),(3,3),(4,3),(5,43)],9,48,[(.int .i64 0),(.int .i64 0),(.int .i64 0),(.int .i64 0),(.int .i64 0),(.int .u8 0),(.int .u8 0),(.int .u8 0),(.int .u8 0)]⟩
 |46=>some ⟨.ptr 116,1,8,[(.pointer none)]⟩
 |47=>some ⟨.func,1,8,[.nilFunc]⟩
 |_=>none
def u0f:V4:=fun t=>match t with
 |48=>some ⟨.func,1,8,[.nilFunc]⟩
 |49=>some ⟨.func,1,8,[.nilFunc]⟩
 |51=>some ⟨.func,1,8,[.nilFunc]⟩
 |52=>some ⟨.func,1,8,[.nilFunc]⟩
 |53=>some ⟨.slice 3,1,24,[(.slice none 0 0)]⟩
 |54=>some ⟨.func,1,8,[.nilFunc]⟩
 |55=>some ⟨.func,1,8,[.nilFunc]⟩
 |56=>some ⟨.func,1,8,[.nilFunc]⟩
 |57=>some ⟨.func,1,8,[.nilFunc]⟩
 |58=>some ⟨.func,1,8,[.nilFunc]⟩
 |59=>some ⟨.func,1,8,[.nilFunc]⟩
 |60=>some ⟨.struct [(0,3),(1,3),(2,3),(3,3),(4,3),(5,3),(6,24)],7,72,[(.int .i64 0),(.int .i64 0),(.int .i64 0),(.int .i64 0),(.int .i64 0),(.int .i64 0),(.slice none 0 0)]⟩
 |61=>some ⟨.struct [(0,3),(1,3),(2,3),(3,3),(4,3),(5,3),(6,24)],7,72,[(.int .i64 0),(.int .i64 0),(.int .i64 0),(.int .i64 0),(.int .i64 0),(.int .i64 0),(.slice none 0 0)]⟩
 |62=>some ⟨.func,1,8,[.nilFunc]⟩
 |64=>some ⟨.func,1,8,[.nilFunc]⟩
 |65=>some ⟨.func,1,8,[.nilFunc]⟩
 |_=>none
def u0g:V4:=fun t=>match t with
 |66=>some ⟨.func,1,8,[.nilFunc]⟩
 |67=>some ⟨.func,1,8,[.nilFunc]⟩
 |68=>some ⟨.func,1,8,[.nilFunc]⟩
 |69=>some ⟨.struct [(0,37),(1,3),(2,3),(3,3)],4,48,[(.slice none 0 0),(.int .i64 0),(.int .i64 0),(.int .i64 0)]⟩
 |70=>some ⟨.struct [(0,37),(1,3),(2,3),(3,3)],4,48,[(.slice none 0 0),(.int .i64 0),(.int .i64 0),(.int .i64 0)]⟩
 |72=>some ⟨.func,1,8,[.nilFunc]⟩
 |73=>some ⟨.func,1,8,[.nilFunc]⟩
 |74=>some ⟨.func,1,8,[.nilFunc]⟩
 |75=>some ⟨.ptr 148,1,8,[(.pointer none)]⟩
 |77=>some ⟨.func,1,8,[.nilFunc]⟩
 |79=>some ⟨.func,1,8,[.nilFunc]⟩
 |81=>some ⟨.func,1,8,[.nilFunc]⟩
 |82=>some ⟨.func,1,8,[.nilFunc]⟩
 |83=>some ⟨.func,1,8,[.nilFunc]⟩
 |84=>some ⟨.func,1,8,[.nilFunc]⟩
 |85=>some ⟨.func,1,8,[.nilFunc]⟩
 |_=>none
def u0h:V4:=fun t=>match t with
 |86=>some ⟨.func,1,8,[.nilFunc]⟩
 |87=>some ⟨.func,1,8,[.nilFunc]⟩
 |89=>some ⟨.func,1,8,[.nilFunc]⟩
 |90=>some ⟨.func,1,8,[.nilFunc]⟩
 |91=>some ⟨.slice 37,1,24,[(.slice none 0 0)]⟩
 |92=>some ⟨.func,1,8,[.nilFunc]⟩
 |93=>some ⟨.func,1,8,[.nilFunc]⟩
 |94=>some ⟨.func,1,8,[.nilFunc]⟩
 |95=>some ⟨.func,1,8,[.nilFunc]⟩
 |96=>some ⟨.func,1,8,[.nilFunc]⟩
 |97=>some ⟨.func,1,8,[.nilFunc]⟩
 |98=>some ⟨.func,1,8,[.nilFunc]⟩
 |99=>some ⟨.func,1,8,[.nilFunc]⟩
 |100=>some ⟨.func,1,8,[.nilFunc]⟩
 |101=>some ⟨.struct [(0,3),(1,3),(2,3),(3,3),(4,3),(5,24)],6,64,[(.int .i64 0),(.int .i64 0),(.int .i64 0),(.int .i64 0),(.int .i64 0),(.slice none 0 0)]⟩
 |102=>some ⟨.struct [(0,3),(1,3),(2,3),(3,3),(4,3),(5,24)],6,64,[(.int .i64 0),(.int .i64 0),(.int .i64 0),(.int .i64 0),(.int .i64 0),(.slice none 0 0)]⟩
 |_=>none
def u0i:V4:=fun t=>match t with
 |103=>some ⟨.func,1,8,[.nilFunc]⟩
 |105=>some ⟨.func,1,8,[.nilFunc]⟩
 |106=>some ⟨.func,1,8,[.nilFunc]⟩
 |107=>some ⟨.func,1,8,[.nilFunc]⟩
 |108=>some ⟨.func,1,8,[.nilFunc]⟩
 |109=>some ⟨.func,1,8,[.nilFunc]⟩
 |110=>some ⟨.func,1,8,[.nilFunc]⟩
 |111=>some ⟨.map 3 109,1,8,[(.map none)]⟩
 |112=>some ⟨.func,1,8,[.nilFunc]⟩
 |113=>some ⟨.slice 152,1,24,[(.slice none 0 0)]⟩
 |114=>some ⟨.slice 174,1,24,[(.slice none 0 0)]⟩
 |115=>some ⟨.struct [(0,113),(1,114),(2,4),(3,4),(4,3),(5,3)],6,72,[(.slice none 0 0),(.slice none 0 0),(.bool false),(.bool false),(.int .i64 0),(.int .i64 0)]⟩
 |116=>some ⟨.struct [(0,113),(1,114),(2,4),(3,4),(4,3),(5,3)],6,72,[(.slice none 0 0),(.slice none 0 0),(.bool false),(.bool false),(.int .i64 0),(.int .i64 0)]⟩
 |117=>some ⟨.struct [(0,24)],1,24,[(.slice none 0 0)]⟩
 |118=>some ⟨.struct [(0,24)],1,24,[(.slice none 0 0)]⟩
 |119=>some ⟨.func,1,8,[.nilFunc]⟩
 |_=>none
def u0j:V4:=fun t=>match t with
 |120=>some ⟨.func,1,8,[.nilFunc]⟩
 |121=>some ⟨.func,1,8,[.nilFunc]⟩
 |122=>some ⟨.func,1,8,[.nilFunc]⟩
 |123=>some ⟨.func,1,8,[.nilFunc]⟩
 |124=>some ⟨.ptr 188,1,8,[(.pointer none)]⟩
 |125=>some ⟨.func,1,8,[.nilFunc]⟩
 |126=>some ⟨.ptr 3,1,8,[(.pointer none)]⟩
 |127=>some ⟨.slice 126,1,24,[(.slice none 0 0)]⟩
 |128=>some ⟨.func,1,8,[.nilFunc]⟩
 |129=>some ⟨.func,1,8,[.nilFunc]⟩
 |131=>some ⟨.func,1,8,[.nilFunc]⟩
 |133=>some ⟨.func,1,8,[.nilFunc]⟩
 |134=>some ⟨.ptr 137,1,8,[(.pointer none)]⟩
 |135=>some ⟨.array 2 37,2,48,[(.slice none 0 0),(.slice none 0 0)]⟩
 |136=>some ⟨.struct [(0,3),(1,23),(5,135),(7,61),(14,4),(15,3),(16,4)],17,184,[(.int .i64 0),(.int .i64 0),(.int .i64 0),(.int .i64 0),(.int .i64 0),(.slice none 0 0),(.slice none 0 0),(.int .i64 0),(.int .i64 0),(.int .i64 0),(.int .i64 0),(.int .i64 0),(.int .i64 0),(.slice none 0 0),(.bool false),(.int .i64 0),(.bool false)]⟩
 |137=>some ⟨.struct [(0,3),(1,23),(5,135),(7,61),(14,4),(15,3),(16,4)],17,184,[(.int .i64 0),(.int .i64 0),(.int .i64 0),(.int .i64 0),(.int .i64 0),(.slice none 0 0),(.slice none 0 0),(.int .i64 0),(.int .i64 0),(.int .i64 0),(.int .i64 0),(.int .i64 0),(.int .i64 0),(.slice none 0 0),(.bool false),(.int .i64 0),(.bool false)]⟩
 |_=>none
def u0k:V4:=fun t=>match t with
 |138=>some ⟨.func,1,8,[.nilFunc]⟩
 |139=>some ⟨.func,1,8,[.nilFunc]⟩
 |140=>some ⟨.func,1,8,[.nilFunc]⟩
 |141=>some ⟨.slice 61,1,24,[(.slice none 0 0)]⟩
 |142=>some ⟨.func,1,8,[.nilFunc]⟩
 |143=>some ⟨.func,1,8,[.nilFunc]⟩
 |144=>some ⟨.func,1,8,[.nilFunc]⟩
 |145=>some ⟨.func,1,8,[.nilFunc]⟩
 |146=>some ⟨.func,1,8,[.nilFunc]⟩
 |147=>some ⟨.struct [(0,146),(1,3),(2,23),(6,3),(7,3),(8,3),(9,3),(10,3)],11,88,[.nilFunc,(.int .i64 0),(.int .i64 0),(.int .i64 0),(.int .i64 0),(.int .i64 0),(.int .i64 0),(.int .i64 0),(.int .i64 0),(.int .i64 0),(.int .i64 0)]⟩
 |148=>some ⟨.struct [(0,146),(1,3),(2,23),(6,3),(7,3),(8,3),(9,3),(10,3)],11,88,[.nilFunc,(.int .i64 0),(.int .i64 0),(.int .i64 0),(.int .i64 0),(.int .i64 0),(.int .i64 0),(.int .i64 0),(.int .i64 0),(.int .i64 0),(.int .i64 0)]⟩
 |149=>some ⟨.func,1,8,[.nilFunc]⟩
 |150=>some ⟨.func,1,8,[.nilFunc]⟩
 |151=>some ⟨.struct [(0,24),(1,4),(2,3),(3,53)],4,64,[(.slice none 0 0),(.bool false),(.int .i64 0),(.slice none 0 0)]⟩
 |152=>some ⟨.struct [(0,24),(1,4),(2,3),(3,53)],4,64,[(.slice none 0 0),(.bool false),(.int .i64 0),(.slice none 0 0)]⟩
 |153=>some ⟨.func,1,8,[.nilFunc]⟩
 |_=>none
def u0m:V4:=fun t=>match t with
 |154=>some ⟨.func,1,8,[.nilFunc]⟩
 |155=>some ⟨.func,1,8,[.nilFunc]⟩
 |156=>some ⟨.func,1,8,[.nilFunc]⟩
 |157=>some ⟨.func,1,8,[.nilFunc]⟩
 |158=>some ⟨.func,1,8,[.nilFunc]⟩
 |159=>some ⟨.func,1,8,[.nilFunc]⟩
 |160=>some ⟨.func,1,8,[.nilFunc]⟩
 |161=>some ⟨.func,1,8,[.nilFunc]⟩
 |162=>some ⟨.func,1,8,[.nilFunc]⟩
 |163=>some ⟨.func,1,8,[.nilFunc]⟩
 |164=>some ⟨.func,1,8,[.nilFunc]⟩
 |165=>some ⟨.func,1,8,[.nilFunc]⟩
 |166=>some ⟨.ptr 168,1,8,[(.pointer none)]⟩
 |167=>some ⟨.struct [(0,37),(1,37),(2,3)],3,56,[(.slice none 0 0),(.slice none 0 0),(.int .i64 0)]⟩
 |168=>some ⟨.struct [(0,37),(1,37),(2,3)],3,56,[(.slice none 0 0),(.slice none 0 0),(.int .i64 0)]⟩
 |169=>some ⟨.func,1,8,[.nilFunc]⟩
 |_=>none
def u0n:V4:=fun t=>match t with
 |170=>some ⟨.func,1,8,[.nilFunc]⟩
 |171=>some ⟨.func,1,8,[.nilFunc]⟩
 |172=>some ⟨.ptr 152,1,8,[(.pointer none)]⟩
 |173=>some ⟨.struct [(0,3),(1,24)],2,32,[(.int .i64 0),(.slice none 0 0)]⟩
 |174=>some ⟨.struct [(0,3),(1,24)],2,32,[(.int .i64 0),(.slice none 0 0)]⟩
 |175=>some ⟨.func,1,8,[.nilFunc]⟩
 |176=>some ⟨.func,1,8,[.nilFunc]⟩
 |177=>some ⟨.ptr 179,1,8,[(.pointer none)]⟩
 |178=>some ⟨.struct [(0,46),(1,3)],2,16,[(.pointer none),(.int .i64 0)]⟩
 |179=>some ⟨.struct [(0,46),(1,3)],2,16,[(.pointer none),(.int .i64 0)]⟩
 |180=>some ⟨.func,1,8,[.nilFunc]⟩
 |181=>some ⟨.func,1,8,[.nilFunc]⟩
 |182=>some ⟨.func,1,8,[.nilFunc]⟩
 |183=>some ⟨.func,1,8,[.nilFunc]⟩
 |184=>some ⟨.func,1,8,[.nilFunc]⟩
 |185=>some ⟨.ptr 118,1,8,[(.pointer none)]⟩
 |_=>none
def v3i:V4:=fun t=>match t with
 |186=>some ⟨.func,1,8,[.nilFunc]⟩
 |187=>some ⟨.int .u64,1,8,[(.int .u64 0)]⟩
 |188=>some ⟨.struct [(0,24)],1,24,[(.slice none 0 0)]⟩
 |190=>some ⟨.func,1,8,[.nilFunc]⟩
 |191=>some ⟨.func,1,8,[.nilFunc]⟩
 |193=>some ⟨.func,1,8,[.nilFunc]⟩
 |194=>some ⟨.func,1,8,[.nilFunc]⟩
 |195=>some ⟨.func,1,8,[.nilFunc]⟩
 |196=>some ⟨.func,1,8,[.nilFunc]⟩
 |197=>some ⟨.func,1,8,[.nilFunc]⟩
 |198=>some ⟨.func,1,8,[.nilFunc]⟩
 |199=>some ⟨.ptr 228,1,8,[(.pointer none)]⟩
 |200=>some ⟨.func,1,8,[.nilFunc]⟩
 |201=>some ⟨.func,1,8,[.nilFunc]⟩
 |202=>some ⟨.func,1,8,[.nilFunc]⟩
 |203=>some ⟨.func,1,8,[.nilFunc]⟩
 |_=>none
def v3j:V4:=fun t=>match t with
 |204=>some ⟨.int .u64,1,8,[(.int .u64 0)]⟩
 |205=>some ⟨.func,1,8,[.nilFunc]⟩
 |206=>some ⟨.func,1,8,[.nilFunc]⟩
 |207=>some ⟨.func,1,8,[.nilFunc]⟩
 |209=>some ⟨.func,1,8,[.nilFunc]⟩
 |210=>some ⟨.func,1,8,[.nilFunc]⟩
 |211=>some ⟨.func,1,8,[.nilFunc]⟩
 |213=>some ⟨.func,1,8,[.nilFunc]⟩
 |214=>some ⟨.func,1,8,[.nilFunc]⟩
 |215=>some ⟨.func,1,8,[.nilFunc]⟩
 |216=>some ⟨.func,1,8,[.nilFunc]⟩
 |217=>some ⟨.func,1,8,[.nilFunc]⟩
 |218=>some ⟨.func,1,8,[.nilFunc]⟩
 |219=>some ⟨.func,1,8,[.nilFunc]⟩
 |221=>some ⟨.func,1,8,[.nilFunc]⟩
 |222=>some ⟨.func,1,8,[.nilFunc]⟩
 |_=>none
def v3k:V4:=fun t=>match t with
 |223=>some ⟨.func,1,8,[.nilFunc]⟩
 |224=>some ⟨.func,1,8,[.nilFunc]⟩
 |225=>some ⟨.array 510 5,510,510,(List.replicate 510 (.int .u8 0))⟩
 |226=>some ⟨.array 256 3,256,2048,(List.replicate 256 (.int .i64 0))⟩
 |227=>some ⟨.struct [(0,225),(510,226),(766,4)],767,2568,(List.replicate 510 (.int .u8 0)++List.replicate 256 (.int .i64 0)++[(.bool false)])⟩
 |228=>some ⟨.struct [(0,225),(510,226),(766,4)],767,2568,(List.replicate 510 (.int .u8 0)++List.replicate 256 (.int .i64 0)++[(.bool false)])⟩
 |229=>some ⟨.func,1,8,[.nilFunc]⟩
 |230=>some ⟨.func,1,8,[.nilFunc]⟩
 |231=>some ⟨.func,1,8,[.nilFunc]⟩
 |232=>some ⟨.func,1,8,[.nilFunc]⟩
 |233=>some ⟨.func,1,8,[.nilFunc]⟩
 |234=>some ⟨.func,1,8,[.nilFunc]⟩
 |235=>some ⟨.ptr 241,1,8,[(.pointer none)]⟩
 |236=>some ⟨.func,1,8,[.nilFunc]⟩
 |237=>some ⟨.int .u32,1,4,[(.int .u32 0)]⟩
 |238=>some ⟨.func,1,8,[.nilFunc]⟩
 |_=>none
def v3m:V4:=fun t=>match t with
 |239=>some ⟨.func,1,8,[.nilFunc]⟩
 |240=>some ⟨.array 256 237,256,1024,(List.replicate 256 (.int .u32 0))⟩
 |241=>some ⟨.array 256 237,256,1024,(List.replicate 256 (.int .u32 0))⟩
 |242=>some ⟨.func,1,8,[.nilFunc]⟩
 |250=>some ⟨.func,1,8,[.nilFunc]⟩
 |251=>some ⟨.ptr 5,1,8,[(.pointer none)]⟩
 |254=>some ⟨.struct [(0,12),(1,12),(2,237),(3,248),(4,5),(5,5),(6,249),(7,250),(8,251),(9,252),(10,253)],11,48,[(.int .u64 0),(.int .u64 0),(.int .u32 0),(.int .u8 0),(.int .u8 0),(.int .u8 0),(.int .u8 0),.nilFunc,(.pointer none),(.int .i32 0),(.int .i32 0)]⟩
 |256=>some ⟨.func,1,8,[.nilFunc]⟩
 |_=>none
def tab:V4:=fun t=>cond (Nat.ble t 137) (cond (Nat.ble t 65) (cond (Nat.ble t 29) (u0d t) (cond (Nat.ble t 47) (u0e t) (u0f t))) (cond (Nat.ble t 102) (cond (Nat.ble t 85) (u0g t) (u0h t)) (cond (Nat.ble t 119) (u0i t) (u0j t)))) (cond (Nat.ble t 185) (cond (Nat.ble t 153) (u0k t) (cond (Nat.ble t 169) (u0m t) (u0n t))) (cond (Nat.ble t 222) (cond (Nat.ble t 203) (v3i t) (v3j t)) (cond (Nat.ble t 238) (v3k t) (v3m t))))
theorem q0h {α:Type}{b:Bool}{x y:Option α}{i:α}(h:cond b x y=some i):x=some i∨y=some i:=by cases b;exact .inr h;exact .inl h
theorem ti1:u5 Tryz.prog 1=some ⟨.func,1,8,[.nilFunc]⟩:=by kernel_rfl
theorem ti2:u5 Tryz.prog 2=some ⟨.int .i64,1,8,[(.int .i64 0)]⟩:=by kernel_rfl
theorem ti3:u5 Tryz.prog 3=some ⟨.int .i64,1,8,[(.int .i64 0)]⟩:=by kernel_rfl
theorem ti4:u5 Tryz.prog 4=some ⟨.bool,1,1,[(.bool false)]⟩:=by kernel_rfl
theorem ti5:u5 Tryz.prog 5=some ⟨.int .u8,1,1,[(.int .u8 0)]⟩:=by kernel_rfl
theorem ti9:u5 Tryz.prog 9=some ⟨.string,1,16,[(.string ⟨#[]⟩)]⟩:=by kernel_rfl
theorem u8p:u5 Tryz.prog 12=some ⟨.int .u64,1,8,[(.int .u64 0)]⟩:=by kernel_rfl
theorem u8q:u5 Tryz.prog 17=some ⟨.ptr 255,1,8,[(.pointer none)]⟩:=by kernel_rfl
theorem u8r:u5 Tryz.prog 21=some ⟨.int .i32,1,4,[(.int .i32 0)]⟩:=by kernel_rfl
theorem u8s:u5 Tryz.prog 22=some ⟨.struct [(0,3),(1,3),(2,3),(3,3)],4,32,[(.int .i64 0),(.int .i64 0),(.int .i64 0),(.int .i64 0)]⟩:=by kernel_rfl
theorem u8t:u5 Tryz.prog 23=some ⟨.struct [(0,3),(1,3),(2,3),(3,3)],4,32,[(.int .i64 0),(.int .i64 0),(.int .i64 0),(.int .i64 0)]⟩:=by kernel_rfl
theorem u8u:u5 Tryz.prog 24=some ⟨.slice 5,1,24,[(.slice none 0 0)]⟩:=by kernel_rfl
theorem u8v:u5 Tryz.prog 25=some ⟨.func,1,8,[.nilFunc]⟩:=by kernel_rfl
theorem u8w:u5 Tryz.prog 26=some ⟨.func,1,8,[.nilFunc]⟩:=by kernel_rfl
theorem u8x:u5 Tryz.prog 27=some ⟨.int .i64,1,8,[(.int .i64 0)]⟩:=by kernel_rfl
theorem u8y:u5 Tryz.prog 29=some ⟨.func,1,8,[.nilFunc]⟩:=by kernel_rfl
theorem u9a:u5 Tryz.prog 30=some ⟨.slice 35,1,24,[(.slice none 0 0)]⟩:=by kernel_rfl
theorem u9b:u5 Tryz.prog 32=some ⟨.func,1,8,[.nilFunc]⟩:=by kernel_rfl
theorem u9c:u5 Tryz.prog 33=some ⟨.func,1,8,[.nilFunc]⟩:=by kernel_rfl
theorem u9d:u5 Tryz.prog 34=some ⟨.struct [(0,3),(1,24)],2,32,[(.int .i64 0),(.slice none 0 0)]⟩:=by kernel_rfl
theorem u9e:u5 Tryz.prog 35=some ⟨.struct [(0,3),(1,24)],2,32,[(.int .i64 0),(.slice none 0 0)]⟩:=by kernel_rfl
theorem u9f:u5 Tryz.prog 36=some ⟨.func,1,8,[.nilFunc]⟩:=by kernel_rfl
theorem u9g:u5 Tryz.prog 37=some ⟨.slice 24,1,24,[(.slice none 0 0)]⟩:=by kernel_rfl
theorem u9h:u5 Tryz.prog 39=some ⟨.func,1,8,[.nilFunc]⟩:=by kernel_rfl
theorem u9i:u5 Tryz.prog 40=some ⟨.func,1,8,[.nilFunc]⟩:=by kernel_rfl
theorem u9j:u5 Tryz.prog 41=some ⟨.func,1,8,[.nilFunc]⟩:=by kernel_rfl
theorem u9k:u5 Tryz.prog 42=some ⟨.slice 4,1,24,[(.slice none 0 0)]⟩:=by kernel_rfl
theorem u9m:u5 Tryz.prog 43=some ⟨.array 4 5,4,4,[(.int .u8 0),(.int .u8 0),(.int .u8 0),(.int .u8 0)]⟩:=by kernel_rfl
theorem u9n:u5 Tryz.prog 44=some ⟨.struct [(0,3),(1,3),(2,3),(3,3),(4,3),(5,43)],9,48,[(.int .i64 0),(.int .i64 0),(.int .i64 0),(.int .i64 0),(.int .i64 0),(.int .u8 0),(.int .u8 0),(.int .u8 0),(.int .u8 0)]⟩:=by kernel_rfl
theorem u9p:u5 Tryz.prog 45=some ⟨.struct [(0,3),(1,3),(2,3),(3,3),(4,3),(5,43)],9,48,[(.int .i64 0),(.int .i64 0),(.int .i64 0),(.int .i64 0),(.int .i64 0),(.int .u8 0),(.int .u8 0),(.int .u8 0),(.int .u8 0)]⟩:=by kernel_rfl
theorem u9q:u5 Tryz.prog 46=some ⟨.ptr 116,1,8,[(.pointer none)]⟩:=by kernel_rfl
theorem u9r:u5 Tryz.prog 47=some ⟨.func,1,8,[.nilFunc]⟩:=by kernel_rfl
theorem u9s:u5 Tryz.prog 48=some ⟨.func,1,8,[.nilFunc]⟩:=by kernel_rfl
theorem u9t:u5 Tryz.prog 49=some ⟨.func,1,8,[.nilFunc]⟩:=by kernel_rfl
theorem u9u:u5 Tryz.prog 51=some ⟨.func,1,8,[.nilFunc]⟩:=by kernel_rfl
theorem u9v:u5 Tryz.prog 52=some ⟨.func,1,8,[.nilFunc]⟩:=by kernel_rfl
theorem u9w:u5 Tryz.prog 53=some ⟨.slice 3,1,24,[(.slice none 0 0)]⟩:=by kernel_rfl
theorem u9x:u5 Tryz.prog 54=some ⟨.func,1,8,[.nilFunc]⟩:=by kernel_rfl
theorem u9y:u5 Tryz.prog 55=some ⟨.func,1,8,[.nilFunc]⟩:=by kernel_rfl
theorem u9z:u5 Tryz.prog 56=some ⟨.func,1,8,[.nilFunc]⟩:=by kernel_rfl
theorem Q0a:u5 Tryz.prog 57=some ⟨.func,1,8,[.nilFunc]⟩:=by kernel_rfl
theorem Q0b:u5 Tryz.prog 58=some ⟨.func,1,8,[.nilFunc]⟩:=by kernel_rfl
theorem Q0c:u5 Tryz.prog 59=some ⟨.func,1,8,[.nilFunc]⟩:=by kernel_rfl
theorem Q0d:u5 Tryz.prog 60=some ⟨.struct [(0,3),(1,3),(2,3),(3,3),(4,3),(5,3),(6,24)],7,72,[(.int .i64 0),(.int .i64 0),(.int .i64 0),(.int .i64 0),(.int .i64 0),(.int .i64 0),(.slice none 0 0)]⟩:=by kernel_rfl
theorem Q0e:u5 Tryz.prog 61=some ⟨.struct [(0,3),(1,3),(2,3),(3,3),(4,3),(5,3),(6,24)],7,72,[(.int .i64 0),(.int .i64 0),(.int .i64 0),(.int .i64 0),(.int .i64 0),(.int .i64 0),(.slice none 0 0)]⟩:=by kernel_rfl
theorem Q0f:u5 Tryz.prog 62=some ⟨.func,1,8,[.nilFunc]⟩:=by kernel_rfl
theorem Q0g:u5 Tryz.prog 64=some ⟨.func,1,8,[.nilFunc]⟩:=by kernel_rfl
theorem Q0h:u5 Tryz.prog 65=some ⟨.func,1,8,[.nilFunc]⟩:=by kernel_rfl
theorem Q0i:u5 Tryz.prog 66=some ⟨.func,1,8,[.nilFunc]⟩:=by kernel_rfl
theorem Q0j:u5 Tryz.prog 67=some ⟨.func,1,8,[.nilFunc]⟩:=by kernel_rfl
theorem Q0k:u5 Tryz.prog 68=some ⟨.func,1,8,[.nilFunc]⟩:=by kernel_rfl
theorem Q0m:u5 Tryz.prog 69=some ⟨.struct [(0,37),(1,3),(2,3),(3,3)],4,48,[(.slice none 0 0),(.int .i64 0),(.int .i64 0),(.int .i64 0)]⟩:=by kernel_rfl
theorem Q0n:u5 Tryz.prog 70=some ⟨.struct [(0,37),(1,3),(2,3),(3,3)],4,48,[(.slice none 0 0),(.int .i64 0),(.int .i64 0),(.int .i64 0)]⟩:=by kernel_rfl
theorem Q0p:u5 Tryz.prog 72=some ⟨.func,1,8,[.nilFunc]⟩:=by kernel_rfl
theorem Q0q:u5 Tryz.prog 73=some ⟨.func,1,8,[.nilFunc]⟩:=by kernel_rfl
theorem Q0r:u5 Tryz.prog 74=some ⟨.func,1,8,[.nilFunc]⟩:=by kernel_rfl
theorem Q0s:u5 Tryz.prog 75=some ⟨.ptr 148,1,8,[(.pointer none)]⟩:=by kernel_rfl
theorem Q0t:u5 Tryz.prog 77=some ⟨.func,1,8,[.nilFunc]⟩:=by kernel_rfl
theorem Q0u:u5 Tryz.prog 79=some ⟨.func,1,8,[.nilFunc]⟩:=by kernel_rfl
theorem Q0v:u5 Tryz.prog 81=some ⟨.func,1,8,[.nilFunc]⟩:=by kernel_rfl
theorem Q0w:u5 Tryz.prog 82=some ⟨.func,1,8,[.nilFunc]⟩:=by kernel_rfl
theorem Q0x:u5 Tryz.prog 83=some ⟨.func,1,8,[.nilFunc]⟩:=by kernel_rfl
theorem Q0y:u5 Tryz.prog 84=some ⟨.func,1,8,[.nilFunc]⟩:=by kernel_rfl
theorem Q0z:u5 Tryz.prog 85=some ⟨.func,1,8,[.nilFunc]⟩:=by kernel_rfl
theorem Q1a:u5 Tryz.prog 86=some ⟨.func,1,8,[.nilFunc]⟩:=by kernel_rfl
theorem Q1b:u5 Tryz.prog 87=some ⟨.func,1,8,[.nilFunc]⟩:=by kernel_rfl
theorem Q1c:u5 Tryz.prog 89=some ⟨.func,1,8,[.nilFunc]⟩:=by kernel_rfl
theorem Q1d:u5 Tryz.prog 90=some ⟨.func,1,8,[.nilFunc]⟩:=by kernel_rfl
theorem Q1e:u5 Tryz.prog 91=some ⟨.slice 37,1,24,[(.slice none 0 0)]⟩:=by kernel_rfl
theorem Q1f:u5 Tryz.prog 92=some ⟨.func,1,8,[.nilFunc]⟩:=by kernel_rfl
theorem Q1g:u5 Tryz.prog 93=some ⟨.func,1,8,[.nilFunc]⟩:=by kernel_rfl
theorem Q1h:u5 Tryz.prog 94=some ⟨.func,1,8,[.nilFunc]⟩:=by kernel_rfl
theorem Q1i:u5 Tryz.prog 95=some ⟨.func,1,8,[.nilFunc]⟩:=by kernel_rfl
theorem Q1j:u5 Tryz.prog 96=some ⟨.func,1,8,[.nilFunc]⟩:=by kernel_rfl
theorem Q1k:u5 Tryz.prog 97=some ⟨.func,1,8,[.nilFunc]⟩:=by kernel_rfl
theorem Q1m:u5 Tryz.prog 98=some ⟨.func,1,8,[.nilFunc]⟩:=by kernel_rfl
theorem Q1n:u5 Tryz.prog 99=some ⟨.func,1,8,[.nilFunc]⟩:=by kernel_rfl
theorem u1r:u5 Tryz.prog 100=some ⟨.func,1,8,[.nilFunc]⟩:=by kernel_rfl
theorem u1s:u5 Tryz.prog 101=some ⟨.struct [(0,3),(1,3),(2,3),(3,3),(4,3),(5,24)],6,64,[(.int .i64 0),(.int .i64 0),(.int .i64 0),(.int .i64 0),(.int .i64 0),(.slice none 0 0)]⟩:=by kernel_rfl
theorem u1t:u5 Tryz.prog 102=some ⟨.struct [(0,3),(1,3),(2,3),(3,3),(4,3),(5,24)],6,64,[(.int .i64 0),(.int .i64 0),(.int .i64 0),(.int .i64 0),(.int .i64 0),(.slice none 0 0)]⟩:=by kernel_rfl
theorem u1u:u5 Tryz.prog 103=some ⟨.func,1,8,[.nilFunc]⟩:=by kernel_rfl
theorem u1v:u5 Tryz.prog 105=some ⟨.func,1,8,[.nilFunc]⟩:=by kernel_rfl
theorem u1w:u5 Tryz.prog 106=some ⟨.func,1,8,[.nilFunc]⟩:=by kernel_rfl
theorem u1x:u5 Tryz.prog 107=some ⟨.func,1,8,[.nilFunc]⟩:=by kernel_rfl
theorem u1y:u5 Tryz.prog 108=some ⟨.func,1,8,[.nilFunc]⟩:=by kernel_rfl
theorem u1z:u5 Tryz.prog 109=some ⟨.func,1,8,[.nilFunc]⟩:=by kernel_rfl
theorem u2a:u5 Tryz.prog 110=some ⟨.func,1,8,[.nilFunc]⟩:=by kernel_rfl
theorem u2b:u5 Tryz.prog 111=some ⟨.map 3 109,1,8,[(.map none)]⟩:=by kernel_rfl
theorem u2c:u5 Tryz.prog 112=some ⟨.func,1,8,[.nilFunc]⟩:=by kernel_rfl
theorem u2d:u5 Tryz.prog 113=some ⟨.slice 152,1,24,[(.slice none 0 0)]⟩:=by kernel_rfl
theorem u2e:u5 Tryz.prog 114=some ⟨.slice 174,1,24,[(.slice none 0 0)]⟩:=by kernel_rfl
theorem u2f:u5 Tryz.prog 115=some ⟨.struct [(0,113),(1,114),(2,4),(3,4),(4,3),(5,3)],6,72,[(.slice none 0 0),(.slice none 0 0),(.bool false),(.bool false),(.int .i64 0),(.int .i64 0)]⟩:=by kernel_rfl
theorem u2g:u5 Tryz.prog 116=some ⟨.struct [(0,113),(1,114),(2,4),(3,4),(4,3),(5,3)],6,72,[(.slice none 0 0),(.slice none 0 0),(.bool false),(.bool false),(.int .i64 0),(.int .i64 0)]⟩:=by kernel_rfl
theorem u2h:u5 Tryz.prog 117=some ⟨.struct [(0,24)],1,24,[(.slice none 0 0)]⟩:=by kernel_rfl
theorem u2i:u5 Tryz.prog 118=some ⟨.struct [(0,24)],1,24,[(.slice none 0 0)]⟩:=by kernel_rfl
theorem u2j:u5 Tryz.prog 119=some ⟨.func,1,8,[.nilFunc]⟩:=by kernel_rfl
theorem u2k:u5 Tryz.prog 120=some ⟨.func,1,8,[.nilFunc]⟩:=by kernel_rfl
theorem u2m:u5 Tryz.prog 121=some ⟨.func,1,8,[.nilFunc]⟩:=by kernel_rfl
theorem u2n:u5 Tryz.prog 122=some ⟨.func,1,8,[.nilFunc]⟩:=by kernel_rfl
theorem u2p:u5 Tryz.prog 123=some ⟨.func,1,8,[.nilFunc]⟩:=by kernel_rfl
theorem u2q:u5 Tryz.prog 124=some ⟨.ptr 188,1,8,[(.pointer none)]⟩:=by kernel_rfl
theorem u2r:u5 Tryz.prog 125=some ⟨.func,1,8,[.nilFunc]⟩:=by kernel_rfl
theorem u2s:u5 Tryz.prog 126=some ⟨.ptr 3,1,8,[(.pointer none)]⟩:=by kernel_rfl
theorem u2t:u5 Tryz.prog 127=some ⟨.slice 126,1,24,[(.slice none 0 0)]⟩:=by kernel_rfl
theorem u2u:u5 Tryz.prog 128=some ⟨.func,1,8,[.nilFunc]⟩:=by kernel_rfl
theorem u2v:u5 Tryz.prog 129=some ⟨.func,1,8,[.nilFunc]⟩:=by kernel_rfl
theorem u2w:u5 Tryz.prog 131=some ⟨.func,1,8,[.nilFunc]⟩:=by kernel_rfl
theorem u2x:u5 Tryz.prog 133=some ⟨.func,1,8,[.nilFunc]⟩:=by kernel_rfl
theorem u2y:u5 Tryz.prog 134=some ⟨.ptr 137,1,8,[(.pointer none)]⟩:=by kernel_rfl
theorem u2z:u5 Tryz.prog 135=some ⟨.array 2 37,2,48,[(.slice none 0 0),(.slice none 0 0)]⟩:=by kernel_rfl
theorem u3a:u5 Tryz.prog 136=some ⟨.struct [(0,3),(1,23),(5,135),(7,61),(14,4),(15,3),(16,4)],17,184,[(.int .i64 0),(.int .i64 0),(.int .i64 0),(.int .i64 0),(.int .i64 0),(.slice none 0 0),(.slice none 0 0),(.int .i64 0),(.int .i64 0),(.int .i64 0),(.int .i64 0),(.int .i64 0),(.int .i64 0),(.slice none 0 0),(.bool false),(.int .i64 0),(.bool false)]⟩:=by kernel_rfl
theorem u3b:u5 Tryz.prog 137=some ⟨.struct [(0,3),(1,23),(5,135),(7,61),(14,4),(15,3),(16,4)],17,184,[(.int .i64 0),(.int .i64 0),(.int .i64 0),(.int .i64 0),(.int .i64 0),(.slice none 0 0),(.slice none 0 0),(.int .i64 0),(.int .i64 0),(.int .i64 0),(.int .i64 0),(.int .i64 0),(.int .i64 0),(.slice none 0 0),(.bool false),(.int .i64 0),(.bool false)]⟩:=by kernel_rfl
theorem u3c:u5 Tryz.prog 138=some ⟨.func,1,8,[.nilFunc]⟩:=by kernel_rfl
theorem u3d:u5 Tryz.prog 139=some ⟨.func,1,8,[.nilFunc]⟩:=by kernel_rfl
theorem u3e:u5 Tryz.prog 140=some ⟨.func,1,8,[.nilFunc]⟩:=by kernel_rfl
theorem u3f:u5 Tryz.prog 141=some ⟨.slice 61,1,24,[(.slice none 0 0)]⟩:=by kernel_rfl
theorem u3g:u5 Tryz.prog 142=some ⟨.func,1,8,[.nilFunc]⟩:=by kernel_rfl
theorem u3h:u5 Tryz.prog 143=some ⟨.func,1,8,[.nilFunc]⟩:=by kernel_rfl
theorem u3i:u5 Tryz.prog 144=some ⟨.func,1,8,[.nilFunc]⟩:=by kernel_rfl
theorem u3j:u5 Tryz.prog 145=some ⟨.func,1,8,[.nilFunc]⟩:=by kernel_rfl
theorem u3k:u5 Tryz.prog 146=some ⟨.func,1,8,[.nilFunc]⟩:=by kernel_rfl
theorem u3m:u5 Tryz.prog 147=some ⟨.struct [(0,146),(1,3),(2,23),(6,3),(7,3),(8,3),(9,3),(10,3)],11,88,[.nilFunc,(.int .i64 0),(.int .i64 0),(.int .i64 0),(.int .i64 0),(.int .i64 0),(.int .i64 0),(.int .i64 0),(.int .i64 0),(.int .i64 0),(.int .i64 0)]⟩:=by kernel_rfl
theorem u3n:u5 Tryz.prog 148=some ⟨.struct [(0,146),(1,3),(2,23),(6,3),(7,3),(8,3),(9,3),(10,3)],11,88,[.nilFunc,(.int .i64 0),(.int .i64 0),(.int .i64 0),(.int .i64 0),(.int .i64 0),(.int .i64 0),(.int .i64 0),(.int .i64 0),(.int .i64 0),(.int .i64 0)]⟩:=by kernel_rfl
theorem u3p:u5 Tryz.prog 149=some ⟨.func,1,8,[.nilFunc]⟩:=by kernel_rfl
theorem u3q:u5 Tryz.prog 150=some ⟨.func,1,8,[.nilFunc]⟩:=by kernel_rfl
theorem u3r:u5 Tryz.prog 151=some ⟨.struct [(0,24),(1,4),(2,3),(3,53)],4,64,[(.slice none 0 0),(.bool false),(.int .i64 0),(.slice none 0 0)]⟩:=by kernel_rfl
theorem u3s:u5 Tryz.prog 152=some ⟨.struct [(0,24),(1,4),(2,3),(3,53)],4,64,[(.slice none 0 0),(.bool false),(.int .i64 0),(.slice none 0 0)]⟩:=by kernel_rfl
theorem u3t:u5 Tryz.prog 153=some ⟨.func,1,8,[.nilFunc]⟩:=by kernel_rfl
theorem u3u:u5 Tryz.prog 154=some ⟨.func,1,8,[.nilFunc]⟩:=by kernel_rfl
theorem u3v:u5 Tryz.prog 155=some ⟨.func,1,8,[.nilFunc]⟩:=by kernel_rfl
theorem u3w:u5 Tryz.prog 156=some ⟨.func,1,8,[.nilFunc]⟩:=by kernel_rfl
theorem u3x:u5 Tryz.prog 157=some ⟨.func,1,8,[.nilFunc]⟩:=by kernel_rfl
theorem u3y:u5 Tryz.prog 158=some ⟨.func,1,8,[.nilFunc]⟩:=by kernel_rfl
theorem u3z:u5 Tryz.prog 159=some ⟨.func,1,8,[.nilFunc]⟩:=by kernel_rfl
theorem u4a:u5 Tryz.prog 160=some ⟨.func,1,8,[.nilFunc]⟩:=by kernel_rfl
theorem u4b:u5 Tryz.prog 161=some ⟨.func,1,8,[.nilFunc]⟩:=by kernel_rfl
theorem u4c:u5 Tryz.prog 162=some ⟨.func,1,8,[.nilFunc]⟩:=by kernel_rfl
theorem u4d:u5 Tryz.prog 163=some ⟨.func,1,8,[.nilFunc]⟩:=by kernel_rfl
theorem u4e:u5 Tryz.prog 164=some ⟨.func,1,8,[.nilFunc]⟩:=by kernel_rfl
theorem u4f:u5 Tryz.prog 165=some ⟨.func,1,8,[.nilFunc]⟩:=by kernel_rfl
theorem u4g:u5 Tryz.prog 166=some ⟨.ptr 168,1,8,[(.pointer none)]⟩:=by kernel_rfl
theorem u4h:u5 Tryz.prog 167=some ⟨.struct [(0,37),(1,37),(2,3)],3,56,[(.slice none 0 0),(.slice none 0 0),(.int .i64 0)]⟩:=by kernel_rfl
theorem u4i:u5 Tryz.prog 168=some ⟨.struct [(0,37),(1,37),(2,3)],3,56,[(.slice none 0 0),(.slice none 0 0),(.int .i64 0)]⟩:=by kernel_rfl
theorem u4j:u5 Tryz.prog 169=some ⟨.func,1,8,[.nilFunc]⟩:=by kernel_rfl
theorem u4k:u5 Tryz.prog 170=some ⟨.func,1,8,[.nilFunc]⟩:=by kernel_rfl
theorem u4m:u5 Tryz.prog 171=some ⟨.func,1,8,[.nilFunc]⟩:=by kernel_rfl
theorem u4n:u5 Tryz.prog 172=some ⟨.ptr 152,1,8,[(.pointer none)]⟩:=by kernel_rfl
theorem u4p:u5 Tryz.prog 173=some ⟨.struct [(0,3),(1,24)],2,32,[(.int .i64 0),(.slice none 0 0)]⟩:=by kernel_rfl
theorem u4q:u5 Tryz.prog 174=some ⟨.struct [(0,3),(1,24)],2,32,[(.int .i64 0),(.slice none 0 0)]⟩:=by kernel_rfl
theorem u4r:u5 Tryz.prog 175=some ⟨.func,1,8,[.nilFunc]⟩:=by kernel_rfl
theorem u4s:u5 Tryz.prog 176=some ⟨.func,1,8,[.nilFunc]⟩:=by kernel_rfl
theorem u4t:u5 Tryz.prog 177=some ⟨.ptr 179,1,8,[(.pointer none)]⟩:=by kernel_rfl
theorem u4u:u5 Tryz.prog 178=some ⟨.struct [(0,46),(1,3)],2,16,[(.pointer none),(.int .i64 0)]⟩:=by kernel_rfl
theorem u4v:u5 Tryz.prog 179=some ⟨.struct [(0,46),(1,3)],2,16,[(.pointer none),(.int .i64 0)]⟩:=by kernel_rfl
theorem u4w:u5 Tryz.prog 180=some ⟨.func,1,8,[.nilFunc]⟩:=by kernel_rfl
theorem u4x:u5 Tryz.prog 181=some ⟨.func,1,8,[.nilFunc]⟩:=by kernel_rfl
theorem u4y:u5 Tryz.prog 182=some ⟨.func,1,8,[.nilFunc]⟩:=by kernel_rfl
theorem u4z:u5 Tryz.prog 183=some ⟨.func,1,8,[.nilFunc]⟩:=by kernel_rfl
theorem u5a:u5 Tryz.prog 184=some ⟨.func,1,8,[.nilFunc]⟩:=by kernel_rfl
theorem u5b:u5 Tryz.prog 185=some ⟨.ptr 118,1,8,[(.pointer none)]⟩:=by kernel_rfl
theorem u5c:u5 Tryz.prog 186=some ⟨.func,1,8,[.nilFunc]⟩:=by kernel_rfl
theorem u5d:u5 Tryz.prog 187=some ⟨.int .u64,1,8,[(.int .u64 0)]⟩:=by kernel_rfl
theorem u5e:u5 Tryz.prog 188=some ⟨.struct [(0,24)],1,24,[(.slice none 0 0)]⟩:=by kernel_rfl
theorem u5f:u5 Tryz.prog 190=some ⟨.func,1,8,[.nilFunc]⟩:=by kernel_rfl
theorem u5g:u5 Tryz.prog 191=some ⟨.func,1,8,[.nilFunc]⟩:=by kernel_rfl
theorem u5h:u5 Tryz.prog 193=some ⟨.func,1,8,[.nilFunc]⟩:=by kernel_rfl
theorem u5i:u5 Tryz.prog 194=some ⟨.func,1,8,[.nilFunc]⟩:=by kernel_rfl
theorem u5j:u5 Tryz.prog 195=some ⟨.func,1,8,[.nilFunc]⟩:=by kernel_rfl
theorem u5k:u5 Tryz.prog 196=some ⟨.func,1,8,[.nilFunc]⟩:=by kernel_rfl
theorem u5m:u5 Tryz.prog 197=some ⟨.func,1,8,[.nilFunc]⟩:=by kernel_rfl
theorem u5n:u5 Tryz.prog 198=some ⟨.func,1,8,[.nilFunc]⟩:=by kernel_rfl
theorem u5p:u5 Tryz.prog 199=some ⟨.ptr 228,1,8,[(.pointer none)]⟩:=by kernel_rfl
theorem u5q:u5 Tryz.prog 200=some ⟨.func,1,8,[.nilFunc]⟩:=by kernel_rfl
theorem u5r:u5 Tryz.prog 201=some ⟨.func,1,8,[.nilFunc]⟩:=by kernel_rfl
theorem u5s:u5 Tryz.prog 202=some ⟨.func,1,8,[.nilFunc]⟩:=by kernel_rfl
theorem u5t:u5 Tryz.prog 203=some ⟨.func,1,8,[.nilFunc]⟩:=by kernel_rfl
theorem u5u:u5 Tryz.prog 204=some ⟨.int .u64,1,8,[(.int .u64 0)]⟩:=by kernel_rfl
theorem u5v:u5 Tryz.prog 205=some ⟨.func,1,8,[.nilFunc]⟩:=by kernel_rfl
theorem u5w:u5 Tryz.prog 206=some ⟨.func,1,8,[.nilFunc]⟩:=by kernel_rfl
theorem u5x:u5 Tryz.prog 207=some ⟨.func,1,8,[.nilFunc]⟩:=by kernel_rfl
theorem u5y:u5 Tryz.prog 209=some ⟨.func,1,8,[.nilFunc]⟩:=by kernel_rfl
theorem u5z:u5 Tryz.prog 210=some ⟨.func,1,8,[.nilFunc]⟩:=by kernel_rfl
theorem u6a:u5 Tryz.prog 211=some ⟨.func,1,8,[.nilFunc]⟩:=by kernel_rfl
theorem u6b:u5 Tryz.prog 213=some ⟨.func,1,8,[.nilFunc]⟩:=by kernel_rfl
theorem u6c:u5 Tryz.prog 214=some ⟨.func,1,8,[.nilFunc]⟩:=by kernel_rfl
theorem u6d:u5 Tryz.prog 215=some ⟨.func,1,8,[.nilFunc]⟩:=by kernel_rfl
theorem u6e:u5 Tryz.prog 216=some ⟨.func,1,8,[.nilFunc]⟩:=by kernel_rfl
theorem u6f:u5 Tryz.prog 217=some ⟨.func,1,8,[.nilFunc]⟩:=by kernel_rfl
theorem u6g:u5 Tryz.prog 218=some ⟨.func,1,8,[.nilFunc]⟩:=by kernel_rfl
theorem u6h:u5 Tryz.prog 219=some ⟨.func,1,8,[.nilFunc]⟩:=by kernel_rfl
theorem u6i:u5 Tryz.prog 221=some ⟨.func,1,8,[.nilFunc]⟩:=by kernel_rfl
theorem u6j:u5 Tryz.prog 222=some ⟨.func,1,8,[.nilFunc]⟩:=by kernel_rfl
theorem u6k:u5 Tryz.prog 223=some ⟨.func,1,8,[.nilFunc]⟩:=by kernel_rfl
theorem u6m:u5 Tryz.prog 224=some ⟨.func,1,8,[.nilFunc]⟩:=by kernel_rfl
theorem u6n:u5 Tryz.prog 225=some ⟨.array 510 5,510,510,(List.replicate 510 (.int .u8 0))⟩:=by kernel_rfl
theorem u6p:u5 Tryz.prog 226=some ⟨.array 256 3,256,2048,(List.replicate 256 (.int .i64 0))⟩:=by kernel_rfl
theorem u6q:u5 Tryz.prog 227=some ⟨.struct [(0,225),(510,226),(766,4)],767,2568,(List.replicate 510 (.int .u8 0)++List.replicate 256 (.int .i64 0)++[(.bool false)])⟩:=by kernel_rfl
theorem u6r:u5 Tryz.prog 228=some ⟨.struct [(0,225),(510,226),(766,4)],767,2568,(List.replicate 510 (.int .u8 0)++List.replicate 256 (.int .i64 0)++[(.bool false)])⟩:=by kernel_rfl
theorem u6s:u5 Tryz.prog 229=some ⟨.func,1,8,[.nilFunc]⟩:=by kernel_rfl
theorem u6t:u5 Tryz.prog 230=some ⟨.func,1,8,[.nilFunc]⟩:=by kernel_rfl
theorem u6u:u5 Tryz.prog 231=some ⟨.func,1,8,[.nilFunc]⟩:=by kernel_rfl
theorem u6v:u5 Tryz.prog 232=some ⟨.func,1,8,[.nilFunc]⟩:=by kernel_rfl
theorem u6w:u5 Tryz.prog 233=some ⟨.func,1,8,[.nilFunc]⟩:=by kernel_rfl
theorem u6x:u5 Tryz.prog 234=some ⟨.func,1,8,[.nilFunc]⟩:=by kernel_rfl
theorem u6y:u5 Tryz.prog 235=some ⟨.ptr 241,1,8,[(.pointer none)]⟩:=by kernel_rfl
theorem u6z:u5 Tryz.prog 236=some ⟨.func,1,8,[.nilFunc]⟩:=by kernel_rfl
theorem u7a:u5 Tryz.prog 237=some ⟨.int .u32,1,4,[(.int .u32 0)]⟩:=by kernel_rfl
theorem u7b:u5 Tryz.prog 238=some ⟨.func,1,8,[.nilFunc]⟩:=by kernel_rfl
theorem u7c:u5 Tryz.prog 239=some ⟨.func,1,8,[.nilFunc]⟩:=by kernel_rfl
theorem u7d:u5 Tryz.prog 240=some ⟨.array 256 237,256,1024,(List.replicate 256 (.int .u32 0))⟩:=by kernel_rfl
theorem u7e:u5 Tryz.prog 241=some ⟨.array 256 237,256,1024,(List.replicate 256 (.int .u32 0))⟩:=by kernel_rfl
theorem u7f:u5 Tryz.prog 242=some ⟨.func,1,8,[.nilFunc]⟩:=by kernel_rfl
theorem u7g:u5 Tryz.prog 250=some ⟨.func,1,8,[.nilFunc]⟩:=by kernel_rfl
theorem u7h:u5 Tryz.prog 251=some ⟨.ptr 5,1,8,[(.pointer none)]⟩:=by kernel_rfl
theorem u7i:u5 Tryz.prog 254=some ⟨.struct [(0,12),(1,12),(2,237),(3,248),(4,5),(5,5),(6,249),(7,250),(8,251),(9,252),(10,253)],11,48,[(.int .u64 0),(.int .u64 0),(.int .u32 0),(.int .u8 0),(.int .u8 0),(.int .u8 0),(.int .u8 0),.nilFunc,(.pointer none),(.int .i32 0),(.int .i32 0)]⟩:=by kernel_rfl
theorem u7j:u5 Tryz.prog 256=some ⟨.func,1,8,[.nilFunc]⟩:=by kernel_rfl
theorem hT0:∀ t i,u0d t=some i→u5 Tryz.prog t=some i:=by
 intro t i h
 unfold u0d at h
 split at h
 ·obtain rfl:=Option.some.inj h;exact ti1
 ·obtain rfl:=Option.some.inj h;exact ti2
 ·obtain rfl:=Option.some.inj h;exact ti3
 ·obtain rfl:=Option.some.inj h;exact ti4
 ·obtain rfl:=Option.some.inj h;exact ti5
 ·obtain rfl:=Option.some.inj h;exact ti9
 ·obtain rfl:=Option.some.inj h;exact u8p
 ·obtain rfl:=Option.some.inj h;exact u8q
 ·obtain rfl:=Option.some.inj h;exact u8r
 ·obtain rfl:=Option.some.inj h;exact u8s
 ·obtain rfl:=Option.some.inj h;exact u8t
 ·obtain rfl:=Option.some.inj h;exact u8u
 ·obtain rfl:=Option.some.inj h;exact u8v
 ·obtain rfl:=Option.some.inj h;exact u8w
 ·obtain rfl:=Option.some.inj h;exact u8x
 ·obtain rfl:=Option.some.inj h;exact u8y
 ·exact absurd h (by simp)
theorem hT1:∀ t i,u0e t=some i→u5 Tryz.prog t=some i:=by
 intro t i h
 unfold u0e at h
 split at h
 ·obtain rfl:=Option.some.inj h;exact u9a
 ·obtain rfl:=Option.some.inj h;exact u9b
 ·obtain rfl:=Option.some.inj h;exact u9c
 ·obtain rfl:=Option.some.inj h;exact u9d
 ·obtain rfl:=Option.some.inj h;exact u9e
 ·obtain rfl:=Option.some.inj h;exact u9f
 ·obtain rfl:=Option.some.inj h;exact u9g
 ·obtain rfl:=Option.some.inj h;exact u9h
 ·obtain rfl:=Option.some.inj h;exact u9i
 ·obtain rfl:=Option.some.inj h;exact u9j
 ·obtain rfl:=Option.some.inj h;exact u9k
 ·obtain rfl:=Option.some.inj h;exact u9m
 ·obtain rfl:=Option.some.inj h;exact u9n
 ·obtain rfl:=Option.some.inj h;exact u9p
 ·obtain rfl:=Option.some.inj h;exact u9q
 ·obtain rfl:=Option.some.inj h;exact u9r
 ·exact absurd h (by simp)
theorem hT2:∀ t i,u0f t=some i→u5 Tryz.prog t=some i:=by
 intro t i h
 unfold u0f at h
 split at h
 ·obtain rfl:=Option.some.inj h;exact u9s
 ·obtain rfl:=Option.some.inj h;exact u9t
 ·obtain rfl:=Option.some.inj h;exact u9u
 ·obtain rfl:=Option.some.inj h;exact u9v
 ·obtain rfl:=Option.some.inj h;exact u9w
 ·obtain rfl:=Option.some.inj h;exact u9x
 ·obtain rfl:=Option.some.inj h;exact u9y
 ·obtain rfl:=Option.some.inj h;exact u9z
 ·obtain rfl:=Option.some.inj h;exact Q0a
 ·obtain rfl:=Option.some.inj h;exact Q0b
 ·obtain rfl:=Option.some.inj h;exact Q0c
 ·obtain rfl:=Option.some.inj h;exact Q0d
 ·obtain rfl:=Option.some.inj h;exact Q0e
 ·obtain rfl:=Option.some.inj h;exact Q0f
 ·obtain rfl:=Option.some.inj h;exact Q0g
 ·obtain rfl:=Option.some.inj h;exact Q0h
 ·exact absurd h (by simp)
theorem hT3:∀ t i,u0g t=some i→u5 Tryz.prog t=some i:=by
 intro t i h
 unfold u0g at h
 split at h
 ·obtain rfl:=Option.some.inj h;exact Q0i
 ·obtain rfl:=Option.some.inj h;exact Q0j
 ·obtain rfl:=Option.some.inj h;exact Q0k
 ·obtain rfl:=Option.some.inj h;exact Q0m
 ·obtain rfl:=Option.some.inj h;exact Q0n
 ·obtain rfl:=Option.some.inj h;exact Q0p
 ·obtain rfl:=Option.some.inj h;exact Q0q
 ·obtain rfl:=Option.some.inj h;exact Q0r
 ·obtain rfl:=Option.some.inj h;exact Q0s
 ·obtain rfl:=Option.some.inj h;exact Q0t
 ·obtain rfl:=Option.some.inj h;exact Q0u
 ·obtain rfl:=Option.some.inj h;exact Q0v
 ·obtain rfl:=Option.some.inj h;exact Q0w
 ·obtain rfl:=Option.some.inj h;exact Q0x
 ·obtain rfl:=Option.some.inj h;exact Q0y
 ·obtain rfl:=Option.some.inj h;exact Q0z
 ·exact absurd h (by simp)
theorem hT4:∀ t i,u0h t=some i→u5 Tryz.prog t=some i:=by
 intro t i h
 unfold u0h at h
 split at h
 ·obtain rfl:=Option.some.inj h;exact Q1a
 ·obtain rfl:=Option.some.inj h;exact Q1b
 ·obtain rfl:=Option.some.inj h;exact Q1c
 ·obtain rfl:=Option.some.inj h;exact Q1d
 ·obtain rfl:=Option.some.inj h;exact Q1e
 ·obtain rfl:=Option.some.inj h;exact Q1f
 ·obtain rfl:=Option.some.inj h;exact Q1g
 ·obtain rfl:=Option.some.inj h;exact Q1h
 ·obtain rfl:=Option.some.inj h;exact Q1i
 ·obtain rfl:=Option.some.inj h;exact Q1j
 ·obtain rfl:=Option.some.inj h;exact Q1k
 ·obtain rfl:=Option.some.inj h;exact Q1m
 ·obtain rfl:=Option.some.inj h;exact Q1n
 ·obtain rfl:=Option.some.inj h;exact u1r
 ·obtain rfl:=Option.some.inj h;exact u1s
 ·obtain rfl:=Option.some.inj h;exact u1t
 ·exact absurd h (by simp)
theorem hT5:∀ t i,u0i t=some i→u5 Tryz.prog t=some i:=by
 intro t i h
 unfold u0i at h
 split at h
 ·obtain rfl:=Option.some.inj h;exact u1u
 ·obtain rfl:=Option.some.inj h;exact u1v
 ·obtain rfl:=Option.some.inj h;exact u1w
 ·obtain rfl:=Option.some.inj h;exact u1x
 ·obtain rfl:=Option.some.inj h;exact u1y
 ·obtain rfl:=Option.some.inj h;exact u1z
 ·obtain rfl:=Option.some.inj h;exact u2a
 ·obtain rfl:=Option.some.inj h;exact u2b
 ·obtain rfl:=Option.some.inj h;exact u2c
 ·obtain rfl:=Option.some.inj h;exact u2d
 ·obtain rfl:=Option.some.inj h;exact u2e
 ·obtain rfl:=Option.some.inj h;exact u2f
 ·obtain rfl:=Option.some.inj h;exact u2g
 ·obtain rfl:=Option.some.inj h;exact u2h
 ·obtain rfl:=Option.some.inj h;exact u2i
 ·obtain rfl:=Option.some.inj h;exact u2j
 ·exact absurd h (by simp)
theorem hT6:∀ t i,u0j t=some i→u5 Tryz.prog t=some i:=by
 intro t i h
 unfold u0j at h
 split at h
 ·obtain rfl:=Option.some.inj h;exact u2k
 ·obtain rfl:=Option.some.inj h;exact u2m
 ·obtain rfl:=Option.some.inj h;exact u2n
 ·obtain rfl:=Option.some.inj h;exact u2p
 ·obtain rfl:=Option.some.inj h;exact u2q
 ·obtain rfl:=Option.some.inj h;exact u2r
 ·obtain rfl:=Option.some.inj h;exact u2s
 ·obtain rfl:=Option.some.inj h;exact u2t
 ·obtain rfl:=Option.some.inj h;exact u2u
 ·obtain rfl:=Option.some.inj h;exact u2v
 ·obtain rfl:=Option.some.inj h;exact u2w
 ·obtain rfl:=Option.some.inj h;exact u2x
 ·obtain rfl:=Option.some.inj h;exact u2y
 ·obtain rfl:=Option.some.inj h;exact u2z
 ·obtain rfl:=Option.some.inj h;exact u3a
 ·obtain rfl:=Option.some.inj h;exact u3b
 ·exact absurd h (by simp)
theorem hT7:∀ t i,u0k t=some i→u5 Tryz.prog t=some i:=by
 intro t i h
 unfold u0k at h
 split at h
 ·obtain rfl:=Option.some.inj h;exact u3c
 ·obtain rfl:=Option.some.inj h;exact u3d
 ·obtain rfl:=Option.some.inj h;exact u3e
 ·obtain rfl:=Option.some.inj h;exact u3f
 ·obtain rfl:=Option.some.inj h;exact u3g
 ·obtain rfl:=Option.some.inj h;exact u3h
 ·obtain rfl:=Option.some.inj h;exact u3i
 ·obtain rfl:=Option.some.inj h;exact u3j
 ·obtain rfl:=Option.some.inj h;exact u3k
 ·obtain rfl:=Option.some.inj h;exact u3m
 ·obtain rfl:=Option.some.inj h;exact u3n
 ·obtain rfl:=Option.some.inj h;exact u3p
 ·obtain rfl:=Option.some.inj h;exact u3q
 ·obtain rfl:=Option.some.inj h;exact u3r
 ·obtain rfl:=Option.some.inj h;exact u3s
 ·obtain rfl:=Option.some.inj h;exact u3t
 ·exact absurd h (by simp)
theorem hT8:∀ t i,u0m t=some i→u5 Tryz.prog t=some i:=by
 intro t i h
 unfold u0m at h
 split at h
 ·obtain rfl:=Option.some.inj h;exact u3u
 ·obtain rfl:=Option.some.inj h;exact u3v
 ·obtain rfl:=Option.some.inj h;exact u3w
 ·obtain rfl:=Option.some.inj h;exact u3x
 ·obtain rfl:=Option.some.inj h;exact u3y
 ·obtain rfl:=Option.some.inj h;exact u3z
 ·obtain rfl:=Option.some.inj h;exact u4a
 ·obtain rfl:=Option.some.inj h;exact u4b
 ·obtain rfl:=Option.some.inj h;exact u4c
 ·obtain rfl:=Option.some.inj h;exact u4d
 ·obtain rfl:=Option.some.inj h;exact u4e
 ·obtain rfl:=Option.some.inj h;exact u4f
 ·obtain rfl:=Option.some.inj h;exact u4g
 ·obtain rfl:=Option.some.inj h;exact u4h
 ·obtain rfl:=Option.some.inj h;exact u4i
 ·obtain rfl:=Option.some.inj h;exact u4j
 ·exact absurd h (by simp)
theorem hT9:∀ t i,u0n t=some i→u5 Tryz.prog t=some i:=by
 intro t i h
 unfold u0n at h
 split at h
 ·obtain rfl:=Option.some.inj h;exact u4k
 ·obtain rfl:=Option.some.inj h;exact u4m
 ·obtain rfl:=Option.some.inj h;exact u4n
 ·obtain rfl:=Option.some.inj h;exact u4p
 ·obtain rfl:=Option.some.inj h;exact u4q
 ·obtain rfl:=Option.some.inj h;exact u4r
 ·obtain rfl:=Option.some.inj h;exact u4s
 ·obtain rfl:=Option.some.inj h;exact u4t
 ·obtain rfl:=Option.some.inj h;exact u4u
 ·obtain rfl:=Option.some.inj h;exact u4v
 ·obtain rfl:=Option.some.inj h;exact u4w
 ·obtain rfl:=Option.some.inj h;exact u4x
 ·obtain rfl:=Option.some.inj h;exact u4y
 ·obtain rfl:=Option.some.inj h;exact u4z
 ·obtain rfl:=Option.some.inj h;exact u5a
 ·obtain rfl:=Option.some.inj h;exact u5b
 ·exact absurd h (by simp)
theorem Q1p:∀ t i,v3i t=some i→u5 Tryz.prog t=some i:=by
 intro t i h
 unfold v3i at h
 split at h
 ·obtain rfl:=Option.some.inj h;exact u5c
 ·obtain rfl:=Option.some.inj h;exact u5d
 ·obtain rfl:=Option.some.inj h;exact u5e
 ·obtain rfl:=Option.some.inj h;exact u5f
 ·obtain rfl:=Option.some.inj h;exact u5g
 ·obtain rfl:=Option.some.inj h;exact u5h
 ·obtain rfl:=Option.some.inj h;exact u5i
 ·obtain rfl:=Option.some.inj h;exact u5j
 ·obtain rfl:=Option.some.inj h;exact u5k
 ·obtain rfl:=Option.some.inj h;exact u5m
 ·obtain rfl:=Option.some.inj h;exact u5n
 ·obtain rfl:=Option.some.inj h;exact u5p
 ·obtain rfl:=Option.some.inj h;exact u5q
 ·obtain rfl:=Option.some.inj h;exact u5r
 ·obtain rfl:=Option.some.inj h;exact u5s
 ·obtain rfl:=Option.some.inj h;exact u5t
 ·exact absurd h (by simp)
theorem Q1q:∀ t i,v3j t=some i→u5 Tryz.prog t=some i:=by
 intro t i h
 unfold v3j at h
 split at h
 ·obtain rfl:=Option.some.inj h;exact u5u
 ·obtain rfl:=Option.some.inj h;exact u5v
 ·obtain rfl:=Option.some.inj h;exact u5w
 ·obtain rfl:=Option.some.inj h;exact u5x
 ·obtain rfl:=Option.some.inj h;exact u5y
 ·obtain rfl:=Option.some.inj h;exact u5z
 ·obtain rfl:=Option.some.inj h;exact u6a
 ·obtain rfl:=Option.some.inj h;exact u6b
 ·obtain rfl:=Option.some.inj h;exact u6c
 ·obtain rfl:=Option.some.inj h;exact u6d
 ·obtain rfl:=Option.some.inj h;exact u6e
 ·obtain rfl:=Option.some.inj h;exact u6f
 ·obtain rfl:=Option.some.inj h;exact u6g
 ·obtain rfl:=Option.some.inj h;exact u6h
 ·obtain rfl:=Option.some.inj h;exact u6i
 ·obtain rfl:=Option.some.inj h;exact u6j
 ·exact absurd h (by simp)
theorem Q1r:∀ t i,v3k t=some i→u5 Tryz.prog t=some i:=by
 intro t i h
 unfold v3k at h
 split at h
 ·obtain rfl:=Option.some.inj h;exact u6k
 ·obtain rfl:=Option.some.inj h;exact u6m
 ·obtain rfl:=Option.some.inj h;exact u6n
 ·obtain rfl:=Option.some.inj h;exact u6p
 ·obtain rfl:=Option.some.inj h;exact u6q
 ·obtain rfl:=Option.some.inj h;exact u6r
 ·obtain rfl:=Option.some.inj h;exact u6s
 ·obtain rfl:=Option.some.inj h;exact u6t
 ·obtain rfl:=Option.some.inj h;exact u6u
 ·obtain rfl:=Option.some.inj h;exact u6v
 ·obtain rfl:=Option.some.inj h;exact u6w
 ·obtain rfl:=Option.some.inj h;exact u6x
 ·obtain rfl:=Option.some.inj h;exact u6y
 ·obtain rfl:=Option.some.inj h;exact u6z
 ·obtain rfl:=Option.some.inj h;exact u7a
 ·obtain rfl:=Option.some.inj h;exact u7b
 ·exact absurd h (by simp)
theorem Q1s:∀ t i,v3m t=some i→u5 Tryz.prog t=some i:=by
 intro t i h
 unfold v3m at h
 split at h
 ·obtain rfl:=Option.some.inj h;exact u7c
 ·obtain rfl:=Option.some.inj h;exact u7d
 ·obtain rfl:=Option.some.inj h;exact u7e
 ·obtain rfl:=Option.some.inj h;exact u7f
 ·obtain rfl:=Option.some.inj h;exact u7g
 ·obtain rfl:=Option.some.inj h;exact u7h
 ·obtain rfl:=Option.some.inj h;exact u7i
 ·obtain rfl:=Option.some.inj h;exact u7j
 ·exact absurd h (by simp)
theorem hT:TOk Tryz.prog tab:=by
 intro t i h
 unfold tab at h
 rcases q0h h with h|h
 ·rcases q0h h with h|h
  ·rcases q0h h with h|h
   ·exact hT0 t i h
   ·rcases q0h h with h|h
    ·exact hT1 t i h
    ·exact hT2 t i h
  ·rcases q0h h with h|h
   ·rcases q0h h with h|h
    ·exact hT3 t i h
    ·exact hT4 t i h
   ·rcases q0h h with h|h
    ·exact hT5 t i h
    ·exact hT6 t i h
 ·rcases q0h h with h|h
  ·rcases q0h h with h|h
   ·exact hT7 t i h
   ·rcases q0h h with h|h
    ·exact hT8 t i h
    ·exact hT9 t i h
  ·rcases q0h h with h|h
   ·rcases q0h h with h|h
    ·exact Q1p t i h
    ·exact Q1q t i h
   ·rcases q0h h with h|h
    ·exact Q1r t i h
    ·exact Q1s t i h
theorem z6:Tryz.prog.follows .mixedOrders=true:=by kernel_rfl
abbrev z7z:FuncId:=3
theorem z8a:type_of% Tryz.func3:=Tryz.func3
theorem z8b:type_of% Tryz.ntmps3:=Tryz.ntmps3
abbrev y6n:FuncId:=17
theorem y6p:type_of% Tryz.func17:=Tryz.func17
theorem y6q:type_of% Tryz.ntmps17:=Tryz.ntmps17
abbrev y6r:FuncId:=18
theorem y6s:type_of% Tryz.func18:=Tryz.func18
theorem y6t:type_of% Tryz.ntmps18:=Tryz.ntmps18
abbrev x2i:FuncId:=19
theorem x2j:type_of% Tryz.func19:=Tryz.func19
theorem x2k:type_of% Tryz.ntmps19:=Tryz.ntmps19
abbrev y6u:FuncId:=20
theorem y6v:type_of% Tryz.func20:=Tryz.func20
theorem y6w:type_of% Tryz.ntmps20:=Tryz.ntmps20
abbrev x6c:FuncId:=21
theorem x6d:type_of% Tryz.func21:=Tryz.func21
theorem x6e:type_of% Tryz.ntmps21:=Tryz.ntmps21
abbrev x2m:FuncId:=22
theorem x2n:type_of% Tryz.func22:=Tryz.func22
theorem x2p:type_of% Tryz.ntmps22:=Tryz.ntmps22
abbrev x2q:FuncId:=23
theorem x2r:type_of% Tryz.func23:=Tryz.func23
theorem x2s:type_of% Tryz.ntmps23:=Tryz.ntmps23
abbrev y6x:FuncId:=24
theorem y6y:type_of% Tryz.func24:=Tryz.func24
theorem y6z:type_of% Tryz.ntmps24:=Tryz.ntmps24
abbrev y7a:FuncId:=27
theorem y7b:type_of% Tryz.func27:=Tryz.func27
theorem y7c:type_of% Tryz.ntmps27:=Tryz.ntmps27
abbrev x2t:FuncId:=28
theorem x2u:type_of% Tryz.func28:=Tryz.func28
theorem x2v:type_of% Tryz.ntmps28:=Tryz.ntmps28
abbrev z5d:FuncId:=29
theorem z5e:type_of% Tryz.func29:=Tryz.func29
theorem z5f:type_of% Tryz.ntmps29:=Tryz.ntmps29
abbrev x6f:FuncId:=30
theorem x6g:type_of% Tryz.func30:=Tryz.func30
theorem x6h:type_of% Tryz.ntmps30:=Tryz.ntmps30
abbrev x6i:FuncId:=31
theorem x6j:type_of% Tryz.func31:=Tryz.func31
theorem x6k:type_of% Tryz.ntmps31:=Tryz.ntmps31
abbrev w2k:FuncId:=57
theorem w2m:type_of% Tryz.func57:=Tryz.func57
theorem w2n:type_of% Tryz.ntmps57:=Tryz.ntmps57
abbrev w7u:FuncId:=58
theorem w7v:type_of% Tryz.func58:=Tryz.func58
theorem w7w:type_of% Tryz.ntmps58:=Tryz.ntmps58
abbrev y7d:FuncId:=59
theorem y7e:type_of% Tryz.func59:=Tryz.func59
theorem y7f:type_of% Tryz.ntmps59:=Tryz.ntmps59
abbrev x6m:FuncId:=60
theorem x6n:type_of% Tryz.func60:=Tryz.func60
theorem x6p:type_of% Tryz.ntmps60:=Tryz.ntmps60
abbrev w2p:FuncId:=61
theorem w2q:type_of% Tryz.func61:=Tryz.func61
theorem w2r:type_of% Tryz.ntmps61:=Tryz.ntmps61
abbrev y7g:FuncId:=62
theorem y7h:type_of% Tryz.func62:=Tryz.func62
theorem y7i:type_of% Tryz.ntmps62:=Tryz.ntmps62
abbrev x6q:FuncId:=63
theorem x6r:type_of% Tryz.func63:=Tryz.func63
theorem x6s:type_of% Tryz.ntmps63:=Tryz.ntmps63
abbrev z5g:FuncId:=64
theorem q8z:type_of% Tryz.func64:=Tryz.func64
theorem q9a:type_of% Tryz.ntmps64:=Tryz.ntmps64
abbrev x2w:FuncId:=65
theorem x2x:type_of% Tryz.func65:=Tryz.func65
theorem x2y:type_of% Tryz.ntmps65:=Tryz.ntmps65
abbrev z0u:FuncId:=66
theorem y3h:type_of% Tryz.func66:=Tryz.func66
theorem y3i:type_of% Tryz.ntmps66:=Tryz.ntmps66
abbrev z5h:FuncId:=67
theorem q9b:type_of% Tryz.func67:=Tryz.func67
theorem q9c:type_of% Tryz.ntmps67:=Tryz.ntmps67
abbrev x2z:FuncId:=68
theorem x3a:type_of% Tryz.func68:=Tryz.func68
theorem x3b:type_of% Tryz.ntmps68:=Tryz.ntmps68
abbrev x6t:FuncId:=69
theorem x6u:type_of% Tryz.func69:=Tryz.func69
theorem x6v:type_of% Tryz.ntmps69:=Tryz.ntmps69
abbrev q7i:FuncId:=72
theorem z5i:type_of% Tryz.func72:=Tryz.func72
theorem z5j:type_of% Tryz.ntmps72:=Tryz.ntmps72
abbrev z5k:FuncId:=73
theorem z5m:type_of% Tryz.func73:=Tryz.func73
theorem z5n:type_of% Tryz.ntmps73:=Tryz.ntmps73
abbrev w2s:FuncId:=74
theorem w2t:type_of% Tryz.func74:=Tryz.func74
theorem w2u:type_of% Tryz.ntmps74:=Tryz.ntmps74
abbrev y0j:FuncId:=75
theorem y0k:type_of% Tryz.func75:=Tryz.func75
theorem y0m:type_of% Tryz.ntmps75:=Tryz.ntmps75
abbrev y0n:FuncId:=76
theorem y0p:type_of% Tryz.func76:=Tryz.func76
theorem y0q:type_of% Tryz.ntmps76:=Tryz.ntmps76
abbrev z5p:FuncId:=77
theorem z5q:type_of% Tryz.func77:=Tryz.func77
theorem z5r:type_of% Tryz.ntmps77:=Tryz.ntmps77
abbrev z8c:FuncId:=78
theorem z8d:type_of% Tryz.func78:=Tryz.func78
theorem z8e:type_of% Tryz.ntmps78:=Tryz.ntmps78
abbrev z8f:FuncId:=79
theorem z8g:type_of% Tryz.func79:=Tryz.func79
theorem z8h:type_of% Tryz.ntmps79:=Tryz.ntmps79
abbrev z8i:FuncId:=80
theorem z8j:type_of% Tryz.func80:=Tryz.func80
theorem z8k:type_of% Tryz.ntmps80:=Tryz.ntmps80
abbrev z8m:FuncId:=81
theorem z8n:type_of% Tryz.func81:=Tryz.func81
theorem z8p:type_of% Tryz.ntmps81:=Tryz.ntmps81
abbrev q8b:FuncId:=82
theorem z8q:type_of% Tryz.func82:=Tryz.func82
theorem z8r:type_of% Tryz.ntmps82:=Tryz.ntmps82
abbrev z5s:FuncId:=83
theorem z5t:type_of% Tryz.func83:=Tryz.func83
theorem z5u:type_of% Tryz.ntmps83:=Tryz.ntmps83
abbrev y7j:FuncId:=95
theorem y7k:type_of% Tryz.func95:=Tryz.func95
theorem y7m:type_of% Tryz.ntmps95:=Tryz.ntmps95
abbrev x6w:FuncId:=101
theorem x6x:type_of% Tryz.func101:=Tryz.func101
theorem x6y:type_of% Tryz.ntmps101:=Tryz.ntmps101
abbrev v3n:FuncId:=106
theorem v3p:type_of% Tryz.func106:=Tryz.func106
theorem v3q:type_of% Tryz.ntmps106:=Tryz.ntmps106
abbrev y7n:FuncId:=107
theorem y7p:type_of% Tryz.func107:=Tryz.func107
theorem y7q:type_of% Tryz.ntmps107:=Tryz.ntmps107
abbrev x3c:FuncId:=108
theorem x3d:type_of% Tryz.func108:=Tryz.func108
theorem x3e:type_of% Tryz.ntmps108:=Tryz.ntmps108
abbrev w7x:FuncId:=109
theorem w7y:type_of% Tryz.func109:=Tryz.func109
theorem w7z:type_of% Tryz.ntmps109:=Tryz.ntmps109
abbrev z5v:FuncId:=112
theorem z5w:type_of% Tryz.func112:=Tryz.func112
theorem z5x:type_of% Tryz.ntmps112:=Tryz.ntmps112
abbrev y3j:FuncId:=113
theorem y3k:type_of% Tryz.func113:=Tryz.func113
theorem y3m:type_of% Tryz.ntmps113:=Tryz.ntmps113
abbrev q1k:FuncId:=114
theorem y0r:type_of% Tryz.func114:=Tryz.func114
theorem y0s:type_of% Tryz.ntmps114:=Tryz.ntmps114
abbrev x6z:FuncId:=115
theorem x7a:type_of% Tryz.func115:=Tryz.func115
theorem x7b:type_of% Tryz.ntmps115:=Tryz.ntmps115
abbrev z5y:FuncId:=116
theorem x3f:type_of% Tryz.func116:=Tryz.func116
theorem x3g:type_of% Tryz.ntmps116:=Tryz.ntmps116
abbrev q5q:FuncId:=117
theorem y0t:type_of% Tryz.func117:=Tryz.func117
theorem y0u:type_of% Tryz.ntmps117:=Tryz.ntmps117
abbrev w8a:FuncId:=118
theorem w8b:type_of% Tryz.func118:=Tryz.func118
theorem w8c:type_of% Tryz.ntmps118:=Tryz.ntmps118
abbrev w8d:FuncId:=119
theorem w8e:type_of% Tryz.func119:=Tryz.func119
theorem w8f:type_of% Tryz.ntmps119:=Tryz.ntmps119
abbrev J7:FuncId:=120
theorem q3e:type_of% Tryz.func120:=Tryz.func120
theorem q3f:type_of% Tryz.ntmps120:=Tryz.ntmps120
abbrev y0v:FuncId:=121
theorem y0w:type_of% Tryz.func121:=Tryz.func121
theorem y0x:type_of% Tryz.ntmps121:=Tryz.ntmps121
abbrev x7c:FuncId:=122
theorem x7d:type_of% Tryz.func122:=Tryz.func122
theorem x7e:type_of% Tryz.ntmps122:=Tryz.ntmps122
abbrev w2v:FuncId:=123
theorem w2w:type_of% Tryz.func123:=Tryz.func123
theorem w2x:type_of% Tryz.ntmps123:=Tryz.ntmps123
abbrev x7f:FuncId:=124
theorem x7g:type_of% Tryz.func124:=Tryz.func124
theorem x7h:type_of% Tryz.ntmps124:=Tryz.ntmps124
abbrev x3h:FuncId:=125
theorem x3i:type_of% Tryz.func125:=Tryz.func125
theorem x3j:type_of% Tryz.ntmps125:=Tryz.ntmps125
abbrev x7i:FuncId:=126
theorem x7j:type_of% Tryz.func126:=Tryz.func126
theorem x7k:type_of% Tryz.ntmps126:=Tryz.ntmps126
abbrev y0y:FuncId:=127
theorem y0z:type_of% Tryz.func127:=Tryz.func127
theorem y1a:type_of% Tryz.ntmps127:=Tryz.ntmps127
abbrev q9d:FuncId:=128
theorem x3k:type_of% Tryz.func128:=Tryz.func128
theorem x3m:type_of% Tryz.ntmps128:=Tryz.ntmps128
abbrev z5z:FuncId:=129
theorem x3n:type_of% Tryz.func129:=Tryz.func129
theorem x3p:type_of% Tryz.ntmps129:=Tryz.ntmps129
abbrev y3n:FuncId:=130
theorem y3p:type_of% Tryz.func130:=Tryz.func130
theorem y3q:type_of% Tryz.ntmps130:=Tryz.ntmps130
abbrev x7m:FuncId:=131
theorem x7n:type_of% Tryz.func131:=Tryz.func131
theorem x7p:type_of% Tryz.ntmps131:=Tryz.ntmps131
abbrev q7u:FuncId:=132
theorem y7r:type_of% Tryz.func132:=Tryz.func132
theorem y7s:type_of% Tryz.ntmps132:=Tryz.ntmps132
abbrev x3q:FuncId:=133
theorem x3r:type_of% Tryz.func133:=Tryz.func133
theorem x3s:type_of% Tryz.ntmps133:=Tryz.ntmps133
abbrev x7q:FuncId:=134
theorem x7r:type_of% Tryz.func134:=Tryz.func134
theorem x7s:type_of% Tryz.ntmps134:=Tryz.ntmps134
abbrev z3m:FuncId:=135
theorem y7t:type_of% Tryz.func135:=Tryz.func135
theorem y7u:type_of% Tryz.ntmps135:=Tryz.ntmps135
abbrev q0t:FuncId:=136
theorem q5x:type_of% Tryz.func136:=Tryz.func136
theorem q5y:type_of% Tryz.ntmps136:=Tryz.ntmps136
abbrev q8c:FuncId:=137
theorem z2k:type_of% Tryz.func137:=Tryz.func137
theorem z2m:type_of% Tryz.ntmps137:=Tryz.ntmps137
abbrev y1b:FuncId:=140
theorem y1c:type_of% Tryz.func140:=Tryz.func140
theorem y1d:type_of% Tryz.ntmps140:=Tryz.ntmps140
abbrev z6a:FuncId:=141
theorem z6b:type_of% Tryz.func141:=Tryz.func141
theorem z6c:type_of% Tryz.ntmps141:=Tryz.ntmps141
abbrev x7t:FuncId:=142
theorem x7u:type_of% Tryz.func142:=Tryz.func142
theorem x7v:type_of% Tryz.ntmps142:=Tryz.ntmps142
abbrev q9w:FuncId:=143
theorem y1e:type_of% Tryz.func143:=Tryz.func143
theorem y1f:type_of% Tryz.ntmps143:=Tryz.ntmps143
abbrev z3w:FuncId:=144
theorem z3x:type_of% Tryz.func144:=Tryz.func144
theorem z3y:type_of% Tryz.ntmps144:=Tryz.ntmps144
abbrev q6s:FuncId:=145
theorem z3z:type_of% Tryz.func145:=Tryz.func145
theorem z4a:type_of% Tryz.ntmps145:=Tryz.ntmps145
abbrev q5r:FuncId:=146
theorem q5s:type_of% Tryz.func146:=Tryz.func146
theorem q5t:type_of% Tryz.ntmps146:=Tryz.ntmps146
abbrev z8s:FuncId:=147
theorem z8t:type_of% Tryz.func147:=Tryz.func147
theorem z8u:type_of% Tryz.ntmps147:=Tryz.ntmps147
abbrev y9e:FuncId:=158
theorem w8g:type_of% Tryz.func158:=Tryz.func158
theorem w8h:type_of% Tryz.ntmps158:=Tryz.ntmps158
abbrev q3w:FuncId:=159
theorem y3r:type_of% Tryz.func159:=Tryz.func159
theorem y3s:type_of% Tryz.ntmps159:=Tryz.ntmps159
abbrev z0v:FuncId:=160
theorem y3t:type_of% Tryz.func160:=Tryz.func160
theorem y3u:type_of% Tryz.ntmps160:=Tryz.ntmps160
abbrev q2b:FuncId:=161
theorem z2n:type_of% Tryz.func161:=Tryz.func161
theorem z2p:type_of% Tryz.ntmps161:=Tryz.ntmps161
abbrev q3x:FuncId:=162
theorem q9e:type_of% Tryz.func162:=Tryz.func162
theorem q9f:type_of% Tryz.ntmps162:=Tryz.ntmps162
abbrev w2y:FuncId:=163
theorem w2z:type_of% Tryz.func163:=Tryz.func163
theorem w3a:type_of% Tryz.ntmps163:=Tryz.ntmps163
abbrev v3r:FuncId:=164
theorem v3s:type_of% Tryz.func164:=Tryz.func164
theorem v3t:type_of% Tryz.ntmps164:=Tryz.ntmps164
abbrev q1e:FuncId:=165
theorem q1f:type_of% Tryz.func165:=Tryz.func165
theorem q1g:type_of% Tryz.ntmps165:=Tryz.ntmps165
abbrev q0k:FuncId:=166
theorem x7w:type_of% Tryz.func166:=Tryz.func166
theorem x7x:type_of% Tryz.ntmps166:=Tryz.ntmps166
abbrev y9f:FuncId:=167
theorem y9g:type_of% Tryz.func167:=Tryz.func167
theorem y9h:type_of% Tryz.ntmps167:=Tryz.ntmps167
abbrev y7v:FuncId:=168
theorem y7w:type_of% Tryz.func168:=Tryz.func168
theorem y7x:type_of% Tryz.ntmps168:=Tryz.ntmps168
abbrev q4y:FuncId:=169
theorem z0w:type_of% Tryz.func169:=Tryz.func169
theorem z0x:type_of% Tryz.ntmps169:=Tryz.ntmps169
abbrev y3v:FuncId:=170
theorem w3b:type_of% Tryz.func170:=Tryz.func170
theorem w3c:type_of% Tryz.ntmps170:=Tryz.ntmps170
abbrev x7y:FuncId:=171
theorem x7z:type_of% Tryz.func171:=Tryz.func171
theorem x8a:type_of% Tryz.ntmps171:=Tryz.ntmps171
abbrev y3w:FuncId:=172
theorem y3x:type_of% Tryz.func172:=Tryz.func172
theorem y3y:type_of% Tryz.ntmps172:=Tryz.ntmps172
abbrev z9z:FuncId:=173
theorem x8b:type_of% Tryz.func173:=Tryz.func173
theorem x8c:type_of% Tryz.ntmps173:=Tryz.ntmps173
abbrev y0a:FuncId:=174
theorem x8d:type_of% Tryz.func174:=Tryz.func174
theorem x8e:type_of% Tryz.ntmps174:=Tryz.ntmps174
abbrev q5z:FuncId:=175
theorem z3c:type_of% Tryz.func175:=Tryz.func175
theorem z3d:type_of% Tryz.ntmps175:=Tryz.ntmps175
abbrev q7j:FuncId:=176
theorem q7k:type_of% Tryz.func176:=Tryz.func176
theorem q7m:type_of% Tryz.ntmps176:=Tryz.ntmps176
abbrev y3z:FuncId:=177
theorem y4a:type_of% Tryz.func177:=Tryz.func177
theorem y4b:type_of% Tryz.ntmps177:=Tryz.ntmps177
abbrev x8f:FuncId:=178
theorem x8g:type_of% Tryz.func178:=Tryz.func178
theorem x8h:type_of% Tryz.ntmps178:=Tryz.ntmps178
abbrev x8i:FuncId:=179
theorem x8j:type_of% Tryz.func179:=Tryz.func179
theorem x8k:type_of% Tryz.ntmps179:=Tryz.ntmps179
abbrev y1g:FuncId:=180
theorem y1h:type_of% Tryz.func180:=Tryz.func180
theorem y1i:type_of% Tryz.ntmps180:=Tryz.ntmps180
abbrev z8v:FuncId:=181
theorem z8w:type_of% Tryz.func181:=Tryz.func181
theorem z8x:type_of% Tryz.ntmps181:=Tryz.ntmps181
abbrev q4k:FuncId:=182
theorem q4m:type_of% Tryz.func182:=Tryz.func182
theorem q4n:type_of% Tryz.ntmps182:=Tryz.ntmps182
abbrev q1r:FuncId:=183
theorem z0y:type_of% Tryz.func183:=Tryz.func183
theorem z0z:type_of% Tryz.ntmps183:=Tryz.ntmps183
abbrev q0x:FuncId:=184
theorem q4p:type_of% Tryz.func184:=Tryz.func184
theorem q4q:type_of% Tryz.ntmps184:=Tryz.ntmps184
abbrev w3d:FuncId:=189
theorem w3e:type_of% Tryz.func189:=Tryz.func189
theorem w3f:type_of% Tryz.ntmps189:=Tryz.ntmps189
abbrev q4z:FuncId:=190
theorem x8m:type_of% Tryz.func190:=Tryz.func190
theorem x8n:type_of% Tryz.ntmps190:=Tryz.ntmps190
abbrev q3y:FuncId:=191
theorem y4c:type_of% Tryz.func191:=Tryz.func191
theorem y4d:type_of% Tryz.ntmps191:=Tryz.ntmps191
abbrev y4e:FuncId:=192
theorem y4f:type_of% Tryz.func192:=Tryz.func192
theorem y4g:type_of% Tryz.ntmps192:=Tryz.ntmps192
abbrev x8p:FuncId:=193
theorem x8q:type_of% Tryz.func193:=Tryz.func193
theorem x8r:type_of% Tryz.ntmps193:=Tryz.ntmps193
abbrev z4b:FuncId:=194
theorem w3g:type_of% Tryz.func194:=Tryz.func194
theorem w3h:type_of% Tryz.ntmps194:=Tryz.ntmps194
abbrev y4h:FuncId:=195
theorem y4i:type_of% Tryz.func195:=Tryz.func195
theorem y4j:type_of% Tryz.ntmps195:=Tryz.ntmps195
abbrev z4c:FuncId:=196
theorem z4d:type_of% Tryz.func196:=Tryz.func196
theorem z4e:type_of% Tryz.ntmps196:=Tryz.ntmps196
abbrev x8s:FuncId:=197
theorem x8t:type_of% Tryz.func197:=Tryz.func197
theorem x8u:type_of% Tryz.ntmps197:=Tryz.ntmps197
abbrev x8v:FuncId:=198
theorem x8w:type_of% Tryz.func198:=Tryz.func198
theorem x8x:type_of% Tryz.ntmps198:=Tryz.ntmps198
abbrev y7y:FuncId:=199
theorem y7z:type_of% Tryz.func199:=Tryz.func199
theorem y8a:type_of% Tryz.ntmps199:=Tryz.ntmps199
abbrev y4k:FuncId:=200
theorem y4m:type_of% Tryz.func200:=Tryz.func200
theorem y4n:type_of% Tryz.ntmps200:=Tryz.ntmps200
abbrev y1j:FuncId:=201
theorem y1k:type_of% Tryz.func201:=Tryz.func201
theorem y1m:type_of% Tryz.ntmps201:=Tryz.ntmps201
abbrev q5a:FuncId:=202
theorem q5b:type_of% Tryz.func202:=Tryz.func202
theorem q5c:type_of% Tryz.ntmps202:=Tryz.ntmps202
abbrev w3i:FuncId:=205
theorem w3j:type_of% Tryz.func205:=Tryz.func205
theorem w3k:type_of% Tryz.ntmps205:=Tryz.ntmps205
abbrev z6d:FuncId:=206
theorem z6e:type_of% Tryz.func206:=Tryz.func206
theorem z6f:type_of% Tryz.ntmps206:=Tryz.ntmps206
abbrev q4e:TypeId:=3
abbrev z1:TypeId:=5
abbrev z0:TypeId:=24
abbrev q0m:TypeId:=27
abbrev q0n:TypeId:=30
abbrev Y6:TypeId:=35
abbrev q0g:TypeId:=46
abbrev q1b:TypeId:=102
abbrev q6t:TypeId:=114
abbrev z1a:TypeId:=116
abbrev Z3:TypeId:=152
abbrev v3u:TypeId:=168
abbrev Q8:TypeId:=174
abbrev x8y:TypeId:=179
abbrev q6u:TypeId:=228
abbrev q1c:TypeId:=241
end Go.Proofs.YtinfbclgkghgaaaGreat.AL
/- The layer 06 (disk): a device as a plain value;its small functions walked. -/
namespace Go.Proofs.YtinfbclgkghgaaaGreat.AL
open Go Go.Proofs
abbrev u8 (b:UInt8):PV:=.raw (.int .u8 (b.toNat:Int))
abbrev z7:=List UInt8
def bx (l:z7):List (List PV):=l.map fun b=>[u8 b]
abbrev bP (l:z7):PV:=.sl 1 (bx l)
abbrev bA (l:z7):AV:=.p (bP l)
def ix (l:List Int):List (List PV):=l.map fun n=>[.raw (.int .i64 n)]
abbrev iP (l:List Int):PV:=.sl 1 (ix l)
structure Cell where
 s:z7
 lost:Bool
 drop:Int
 miss:List Int
 deriving Inhabited,DecidableEq
def Cell.pv (c:Cell):List PV:=[bP c.s,.raw (.bool c.lost),.raw (.int .i64 c.drop),iP c.miss]
structure Wr where
 at_:Int
 s:z7
 deriving Inhabited,DecidableEq
def Wr.pv (x:Wr):List PV:=[.raw (.int .i64 x.at_),bP x.s]
structure Dev where
 cells:List Cell
 waits:List Wr
 armed:Bool
 dead:Bool
 left:Int
 ops:Int
 deriving DecidableEq
def cx (l:List Cell):List (List PV):=l.map Cell.pv
def wx (l:List Wr):List (List PV):=l.map Wr.pv
abbrev q3k (D:Dev)(b c:Nat):ABlk:=.cells z1a [.msl b 4 0 D.cells.length,.msl c 2 0 D.waits.length,bl D.armed,bl D.dead,i64 D.left,i64 D.ops]
abbrev Y4 (D:Dev):List ABlk:=[q3k D 1 2,.row Z3 4 (cx D.cells),.row Q8 2 (wx D.waits)]
theorem v3v (D:Dev):AFm Tryz.prog 3 y1g [.ref 0 0] (Y4 D) (v9 (i64 D.cells.length) (Y4 D)):=by
 refine Q5 3 hT y1h rfl rfl y1i rfl rfl ?_
 refine q8 (q7 hT ?_)
 refine q8 (q8 (q7 hT ?_))
 refine z2 ?_
 refine z5 ?_
 refine q8 (q7 hT ?_)
 refine y5 ?_
 exact z9 [0,1,2] ⟨rfl,rfl⟩ rfl
theorem z2q (D:Dev):AFm Tryz.prog 3 z8m [.ref 0 0] (Y4 D) (v9 (bl D.dead) (Y4 D)):=by
 refine Q5 3 hT z8n rfl rfl z8p rfl rfl ?_
 refine q8 (q7 hT ?_)
 refine q8 (q7 hT ?_)
 refine y5 ?_
 exact z9 [0,1,2] ⟨rfl,rfl⟩ rfl
def Dev.has (D:Dev)(a:Int):Bool:=decide (a≥0)&&decide (a<(D.cells.length:Int))
theorem z6g (D:Dev)(a:Int):AFm Tryz.prog 3 y1b [.ref 0 0,i64 a] (Y4 D) (v9 (bl (D.has a)) (Y4 D)):=by
 refine Q5 3 hT y1c rfl rfl y1d rfl rfl ?_
 refine q8 (q7 hT ?_)
 unfold Dev.has
 refine q8 (q7 hT ?_)
 refine y4 (fun h=>?_) (fun h=>?_)
 ·refine y9 (u6 [0,1,2] (v3v D) rfl rfl rfl) ?_
  refine y5 ?_
  refine z9 [0,1,2] ⟨?_,rfl⟩ rfl
  rw[h];rfl
 ·refine y5 ?_
  refine z9 [0,1,2] ⟨?_,rfl⟩ rfl
  rw[h];rfl
def Dev.lives (D:Dev):Dev:={ D with dead:=D.dead||(D.armed&&D.left==0),left:=IntKind.i64.wrap (D.left - 1) }
theorem y4p (D:Dev):AFm Tryz.prog 3 z6a [.ref 0 0] (Y4 D) (v9 (bl (!D.lives.dead)) (Y4 D.lives)):=by
 refine Q5 3 hT z6b rfl rfl z6c rfl rfl ?_
 refine q8 (q7 hT ?_)
 refine z8 ⟨⟨29,[(0,.ref 0 0)]⟩,Y4 { D with dead:=D.dead||(D.armed&&D.left==0) }⟩ True (q8 (q7 hT ?_)) (fun _=>?_)
 ·refine y4 (fun h=>?_) (fun h=>?_)
  ·refine z2 (y4 (fun h2=>?_) (fun h2=>?_))
   ·refine q7 hT ?_
    refine⟨?_,trivial⟩
    have h2:(D.left==0)=true:=h2
    rw[h,h2,Bool.true_and,Bool.or_true]
    exact q9 [0,1,2] [0] rfl
   ·refine z5 ⟨?_,trivial⟩
    have h2:(D.left==0)=false:=h2
    rw[h,h2,Bool.true_and,Bool.or_false]
    exact q9 [0,1,2] [0] rfl
  ·refine z2 ?_
   refine z5 ⟨?_,trivial⟩
   rw[h,Bool.false_and,Bool.or_false]
   exact q9 [0,1,2] [0] rfl
 ·refine q8 (q7 hT ?_)
  refine q8 (q7 hT ?_)
  refine y5 ?_
  exact z9 [0,1,2] ⟨rfl,rfl⟩ rfl
end Go.Proofs.YtinfbclgkghgaaaGreat.AL
namespace Go.Proofs.YtinfbclgkghgaaaGreat.AL
open Go Go.Proofs
theorem w9 (l:z7):(bx l).length=l.length:=by simp[bx]
theorem z8y (l:List Int):(ix l).length=l.length:=by simp[ix]
theorem x3t (l:List Cell):(cx l).length=l.length:=by simp[cx]
theorem z8z (l:List Wr):(wx l).length=l.length:=by simp[wx]
theorem z6h (l:z7)(hl:l.length≤1000000):AF Tryz.prog q0t [bA l] [] (v9 (bA l) []):=by
 have hb:=w9 l
 generalize hx:bx l=xs at hb
 show AF Tryz.prog q0t [.p (.sl 1 (bx l))] [] (v9 (.p (.sl 1 (bx l))) [])
 rw[hx]
 refine z7y (t:=z1) (n:=xs.length) ?_ rfl
 refine v8 hT q5x rfl rfl q5y rfl ?_
 refine q8 (q7 hT ?_)
 refine q8 (q8 (q7 hT ?_))
 intro b hn
 refine z2 (y4 (fun h=>?_) (fun h=>?_))
 ·refine q8 (q7 hT ?_)
  refine y5 ?_
  rw[hn h]
  exact x2h z1 1 ⟨rfl,rfl⟩
 ·refine z5 ?_
  refine q8 (q7 hT ?_)
  refine⟨rfl,⟨?_,?_⟩,?_⟩
  ·show (0+xs.length)*1≤_;omega
  ·show 0+xs.length≤_;omega
  refine y5 ?_
  exact z9 [1] ⟨rfl,rfl⟩ rfl
theorem w8i (l:List Int)(hl:l.length≤1000000):AF Tryz.prog q6s [.p (iP l)] [] (v9 (.msl 0 1 0 l.length) [.row q4e 1 (ix l)]):=by
 have hb:=z8y l
 rw[← hb]
 show AF Tryz.prog q6s [.p (.sl 1 (ix l))] [] (v9 (.msl 0 1 0 (ix l).length) [.row q4e 1 (ix l)])
 generalize ix l=xs at hb
 refine v8 hT z3z rfl rfl z4a rfl ?_
 refine q8 (q7 hT ?_)
 refine q8 (q8 (q7 hT ?_))
 intro b hn
 refine z2 (y4 (fun h=>?_) (fun h=>?_))
 ·refine q8 (q7 hT ?_)
  refine y5 ?_
  rw[hn h]
  exact x2h q4e 1 ⟨rfl,rfl⟩
 ·refine z5 ?_
  refine q8 (q7 hT ?_)
  refine⟨rfl,⟨?_,?_⟩,?_⟩
  ·show (0+xs.length)*8≤_;omega
  ·show 0+xs.length≤_;omega
  refine y5 ?_
  exact z9 [1] ⟨rfl,rfl⟩ rfl
def q1s (l:List Cell)(x:Wr):List Cell:=match l[x.at_.toNat]? with
 |some c=>l.set x.at_.toNat { c with s:=x.s,lost:=false }
 |none=>l
def Dev.done (D:Dev)(x:Wr):Dev:={ D with cells:=q1s D.cells x }
theorem q8d (l:List Cell)(x:Wr):(q1s l x).length=l.length:=by unfold q1s;split <;> simp
theorem y4q {l:List Cell}{i:Nat}{c:Cell}(h:l[i]?=some c):(cx l)[i]?=some c.pv:=by rw[cx,List.getElem?_map,h];rfl
theorem w3m (l:List Cell)(i:Nat)(c:Cell):cx (l.set i c)=(cx l).set i c.pv:=by simp[cx,List.map_set]
theorem y4r {l:List Wr}{i:Nat}{c:Wr}(h:l[i]?=some c):(wx l)[i]?=some c.pv:=by rw[wx,List.getElem?_map,h];rfl
theorem z4f {l:List Cell}{x:Wr}{c:Cell}(h:l[x.at_.toNat]?=some c):q1s l x=l.set x.at_.toNat { c with s:=x.s,lost:=false }:=by
 unfold q1s;rw[h]
theorem y9i (D:Dev)(x:Wr)(h0:0≤x.at_)(h1:x.at_.toNat<D.cells.length):AFm Tryz.prog 3 z8s [.ref 0 0,.agg [i64 x.at_,bA x.s]] (Y4 D) (v9 (.tup []) (Y4 (D.done x))):=by
 have hc:=List.getElem?_eq_getElem h1
 generalize D.cells[x.at_.toNat]=c at hc
 have e:(D.done x).cells=D.cells.set x.at_.toNat { c with s:=x.s,lost:=false }:=z4f hc
 have el:(D.done x).cells.length=D.cells.length:=q8d _ _
 have hlt:x.at_<(D.cells.length:Int):=by omega
 have g1:(cx D.cells)[0+x.at_.toNat]?=some c.pv:=by rw[Nat.zero_add];exact y4q hc
 have g2:∀ e,((cx D.cells).set (0+x.at_.toNat) e)[0+x.at_.toNat]?=some e:=fun e=>by
  rw[Nat.zero_add];exact List.getElem?_set_self (by rw[x3t];exact h1)
 refine Q5 3 hT z8t rfl rfl z8u rfl rfl ?_
 refine q8 (q7 hT ?_)
 refine Q1 (Q3 3 [.raw (.int .i64 x.at_),bP x.s] rfl rfl) ?_
 refine x6 [16,19] [] hT z6 (by rfl) ?_
 refine⟨⟨h0,hlt⟩,?_⟩
 refine v7 g1 ?_
 refine⟨⟨h0,hlt⟩,?_⟩
 refine v7 (g2 _) ?_
 refine⟨rfl,?_⟩
 refine z9 [0,1,2] ⟨rfl,?_⟩ rfl
 have el':((D.done x).cells.length:Int)=D.cells.length:=by rw[el]
 show [q3k D 1 2,.row Z3 4 (((cx D.cells).set (0+x.at_.toNat) _).set (0+x.at_.toNat) _),.row Q8 2 (wx D.waits)]=[q3k (D.done x) 1 2,.row Z3 4 (cx (D.done x).cells),.row Q8 2 (wx D.waits)]
 rw[show q3k (D.done x) 1 2=q3k D 1 2 by unfold q3k;rw[el];rfl,e,w3m,List.set_set,Nat.zero_add]
 rfl
end Go.Proofs.YtinfbclgkghgaaaGreat.AL
namespace Go.Proofs.YtinfbclgkghgaaaGreat.AL
open Go Go.Proofs
def kx (l:List Bool):List (List PV):=l.map fun b=>[.raw (.bool b)]
theorem x3u (l:List Bool):(kx l).length=l.length:=by simp[kx]
def kept (keep:List Bool)(i:Nat):Bool:=decide (0<keep.length)&&keep.getD (i % keep.length) false
def q2i (W:List Wr)(keep:List Bool):Nat→List Cell→List Cell
 |0,cs=>cs
 |i+1,cs=>match kept keep i with
  |true=>q1s (q2i W keep i cs) (W.getD i ⟨0,[]⟩)
  |false=>q2i W keep i cs
theorem q4r (W:List Wr)(keep:List Bool)(cs:List Cell):∀ i,(q2i W keep i cs).length=cs.length
 |0=>rfl
 |i+1=>by
  unfold q2i;split
  ·rw[q8d,q4r W keep cs i]
  ·exact q4r W keep cs i
def Dev.drain (D:Dev)(keep:List Bool):Dev:={ D with cells:=q2i D.waits keep D.waits.length D.cells,waits:=[] }
def Dev.waitsIn (D:Dev):Prop:=∀ x∈D.waits,0≤x.at_∧x.at_<(D.cells.length:Int)
theorem y7 (n:Int)(h0 : -9223372036854775808≤n)(h:n≤9223372036854775807):IntKind.i64.wrap n=n:=by
 rw[IntKind.wrap_i64];omega
theorem w3n (D:Dev)(keep:List Bool)(hw:D.waitsIn)(hn:D.waits.length≤1000000):AFm Tryz.prog 1 z5s [.ref 0 0,.p (.sl 1 (kx keep))] (Y4 D) (v9 (.tup []) (Y4 (D.drain keep))):=by
 refine Q5 1 hT z5t rfl rfl z5u rfl rfl ?_
 refine q8 (q8 (q7 hT ?_))
 refine z3 ?_
 refine y8 (fun n s=>∃ (i:Nat) (j:Int) (C:List Cell),n+i=D.waits.length∧j=i∧C=q2i D.waits keep i D.cells∧s=⟨⟨35,[(0,.ref 0 0),(1,.p (.sl 1 (kx keep))),(9,.msl 2 2 0 D.waits.length),(10,i64 D.waits.length),(11,i64 j)]⟩,Y4 { D with cells:=C }⟩) D.waits.length ⟨⟨35,_⟩,[_,_,_]⟩ (q9 [0,1,2] [0,1,9,10,11] rfl) ⟨0,_,_,by omega,rfl,rfl,rfl⟩ ?_
 rintro n s ⟨i,j,C,hni,rfl,hC,rfl⟩
 refine q8 (q7 hT ?_)
 refine q8 (z2 (y4 (fun h=>?_) (fun h=>?_)))
 ·have hi:i<D.waits.length:=by
   have:=of_decide_eq_true (show decide ((i:Int)<(D.waits.length:Int))=true from h)
   omega
  have hx:=List.getElem?_eq_getElem hi
  have hin:=hw _ (List.getElem_mem hi)
  generalize D.waits[i]=x at hx hin
  have hCl:C.length=D.cells.length:=by rw[hC,q4r]
  refine z5 ?_
  refine q8 (z3 (q8 (q7 hT ?_)))
  refine⟨⟨Int.natCast_nonneg _,of_decide_eq_true h⟩,?_⟩
  refine v7 (show (wx D.waits)[0+((i:Nat):Int).toNat]?=some x.pv by rw[Nat.zero_add,Int.toNat_natCast];exact y4r hx) ?_
  refine q8 (q7 hT ?_)
  have out:∀ b,kept keep i=b→(match b with|true=>q1s C x|false=>C)=q2i D.waits keep (i+1) D.cells:=fun b hb=>by
   have hxd:D.waits.getD i ⟨0,[]⟩=x:=by rw[List.getD_eq_getElem?_getD,hx];rfl
   unfold q2i;rw[hb,hxd,← hC]
  refine y4 (fun h1=>?_) (fun h1=>?_)
  ·have h1':0<keep.length:=by
    have:((kx keep).length:Int) > 0:=of_decide_eq_true h1
    rw[x3u]at this;omega
   have e1:((i:Int).tmod ((kx keep).length:Int))=((i % keep.length:Nat):Int):=by
    rw[x3u,Int.tmod_eq_emod_of_nonneg (Int.natCast_nonneg _)];exact(Int.natCast_emod i keep.length).symm
   have hlt:i % keep.length<keep.length:=Nat.mod_lt _ h1'
   have hk:=List.getElem?_eq_getElem hlt
   generalize keep[i % keep.length]=b at hk
   have hkept:kept keep i=b:=by
    unfold kept;rw[List.getD_eq_getElem?_getD,hk,decide_eq_true h1'];rfl
   refine y2h (b:=decide (((kx keep).length:Int)≠0)) (decide_eq_true (by rw[x3u];omega)) ?_
   refine⟨by rw[e1];omega,v7 (show (kx keep)[((i:Int).tmod ((kx keep).length:Int)).toNat]?=some [.raw (.bool b)] by
    rw[e1,Int.toNat_natCast,kx,List.getElem?_map,hk];rfl) ?_⟩
   refine z2 (y4 (fun hb=>?_) (fun hb=>?_))
   ·refine q7 hT ?_
    refine y9 (u6 [0,1,2] (y9i { D with cells:=C } x hin.1 (by show x.at_.toNat<C.length;omega)) rfl rfl rfl) ?_
    refine q7 hT ?_
    refine⟨n - 1,by omega,_,q9 [0,1,2] [0,1,9,10,11] rfl,i+1,_,q1s C x,by omega,?_,?_,rfl⟩
    ·rw[y7 _ (by omega) (by omega)];rfl
    ·exact(out _ (hkept.trans hb))
   ·refine z5 ?_
    refine q7 hT ?_
    refine⟨n - 1,by omega,_,q9 [0,1,2] [0,1,9,10,11] rfl,i+1,_,C,by omega,?_,?_,rfl⟩
    ·rw[y7 _ (by omega) (by omega)];rfl
    ·exact(out _ (hkept.trans hb))
  ·have hk:kept keep i=false:=by
    have:¬ ((kx keep).length:Int) > 0:=of_decide_eq_false h1
    rw[x3u]at this
    unfold kept;rw[decide_eq_false (by omega)];rfl
   refine z2 ?_
   refine z5 ?_
   refine q7 hT ?_
   refine⟨n - 1,by omega,_,q9 [0,1,2] [0,1,9,10,11] rfl,i+1,_,C,by omega,?_,?_,rfl⟩
   ·rw[y7 _ (by omega) (by omega)];rfl
   ·exact(out _ hk)
 ·refine x9 ?_
  refine q7 hT ?_
  have hi:i=D.waits.length:=by
   have:¬ ((i:Int)<(D.waits.length:Int)):=of_decide_eq_false h
   omega
  refine⟨_,_,Wk.trans (X5 Q8 2) (Wk.trans (q0w 0 [.msl 1 4 0 C.length,.msl 3 2 0 0,bl D.armed,bl D.dead,i64 D.left,i64 D.ops] rfl ⟨.inl rfl,.inr (.inr (.inl ⟨3,2,0,rfl,rfl⟩)),.inl rfl,.inl rfl,.inl rfl,.inl rfl,trivial⟩) (q9 [0,1,3] [0] rfl)),rfl,?_⟩
  rw[hC,hi]
  rfl
end Go.Proofs.YtinfbclgkghgaaaGreat.AL
namespace Go.Proofs.YtinfbclgkghgaaaGreat.AL
open Go Go.Proofs
def Dev.flush (D:Dev):Int × Dev:=match D.dead with
 |true=>(21,D)
 |false=>match D.lives.dead with
  |true=>(21,D.lives)
  |false=>(0,D.lives.drain [true])
theorem not_not {b c:Bool}(h:(!(!b))=c):b=c:=by rw[Bool.not_not]at h;exact h
theorem y4s (D:Dev)(hw:D.waitsIn)(hn:D.waits.length≤1000000):AFm Tryz.prog 1 z5k [.ref 0 0] (Y4 D) (v9 (i64 D.flush.1) (Y4 D.flush.2)):=by
 refine Q5 1 hT z5m rfl rfl z5n rfl rfl ?_
 refine q8 (q7 hT ?_)
 refine q8 (q8 (q7 hT ?_))
 refine y9 (u6 [0,1,2] (z2q D) rfl rfl rfl) ?_
 refine y4 (fun h=>?_) (fun h=>?_)
 ·refine z2 ?_
  refine q8 (q7 hT ?_)
  refine y5 ?_
  have e:D.flush=(21,D):=by unfold Dev.flush;rw[h]
  rw[e]
  exact z9 [0,1,2] ⟨rfl,rfl⟩ rfl
 ·refine y9 (u6 [0,1,2] (y4p D) rfl rfl rfl) ?_
  refine z2 (y4 (fun h1=>?_) (fun h1=>?_))
  ·have e:D.flush=(21,D.lives):=by unfold Dev.flush;rw[h,not_not h1]
   refine q8 (q7 hT ?_)
   refine y5 ?_
   rw[e]
   exact z9 [0,1,2] ⟨rfl,rfl⟩ rfl
  ·have e:D.flush=(0,D.lives.drain [true]):=by unfold Dev.flush;rw[h,not_not h1]
   refine z5 ?_
   refine q8 (W4 (fun k=>Nat.beq 1 k) hT ?_)
   refine⟨⟨rfl,rfl⟩,?_⟩
   refine y9 (u6 [0,1,2] (w3n D.lives [true] hw hn) rfl rfl rfl) ?_
   refine q8 (q7 hT ?_)
   refine y5 ?_
   rw[e]
   exact z9 [0,3,4] ⟨rfl,rfl⟩ rfl
def Dev.crashed (D:Dev)(keep:List Bool):Dev:={ D.drain keep with dead:=false,armed:=false }
theorem y4t (D:Dev)(i:Nat)(c:Cell):Y4 { D with cells:=D.cells.set i c }=[q3k D 1 2,.row Z3 4 ((cx D.cells).set (0+i) c.pv),.row Q8 2 (wx D.waits)]:=by
 unfold Y4 q3k;rw[Nat.zero_add,← w3m,List.length_set]
theorem u0p (l:List Wr)(x:Wr):wx (l++[x])=wx l++[x.pv]:=by simp[wx]
theorem v3w (D:Dev)(x:Wr):Y4 { D with waits:=D.waits++[x] }=[.cells z1a [.msl 1 4 0 D.cells.length,.msl 2 2 0 (wx D.waits++[x.pv]).length,bl D.armed,bl D.dead,i64 D.left,i64 D.ops],.row Z3 4 (cx D.cells),.row Q8 2 (wx D.waits++[x.pv])]:=by
 unfold Y4 q3k;rw[← u0p,z8z]
def Dev.put (D:Dev)(a:Int)(s:z7):Dev:=match D.cells[a.toNat]? with
 |none=>D
 |some c=>match decide (c.drop > 0) with
  |true=>{ D with cells:=D.cells.set a.toNat { c with drop:=IntKind.i64.wrap (c.drop - 1) } }
  |false=>match c.miss with
   |[]=>{ D with waits:=D.waits++[⟨a,s⟩] }
   |t :: r=>{ D with cells:=D.cells.set a.toNat { c with miss:=r },waits:=D.waits++[⟨t,s⟩] }
def Dev.count (D:Dev):Dev:={ D with ops:=IntKind.i64.wrap (D.ops+1) }
def Dev.write (D:Dev)(a:Int)(s:z7):Int × Dev:=match D.dead with
 |true=>(21,D)
 |false=>match D.has a with
  |false=>(3,D)
  |true=>match ((s.length:Int) != 256) with
   |true=>(1,D)
   |false=>match D.lives.dead with
    |true=>(21,D.lives)
    |false=>(0,D.lives.count.put a s)
theorem x8z {D:Dev}{a:Int}{s c1:z7}{c2:Bool}{c3:Int}{c4:List Int}(hc:D.cells[a.toNat]?=some ⟨c1,c2,c3,c4⟩)(h:decide (c3 > 0)=true) :
 D.put a s = { D with cells:=D.cells.set a.toNat ⟨c1,c2,IntKind.i64.wrap (c3 - 1),c4⟩ }:=by
 unfold Dev.put;rw[hc];simp only[h]
theorem x9a {D:Dev}{a:Int}{s c1:z7}{c2:Bool}{c3 t:Int}{r:List Int}(hc:D.cells[a.toNat]?=some ⟨c1,c2,c3,t :: r⟩)(h:decide (c3 > 0)=false) :
 D.put a s = { D with cells:=D.cells.set a.toNat ⟨c1,c2,c3,r⟩,waits:=D.waits++[⟨t,s⟩] }:=by
 unfold Dev.put;rw[hc];simp only[h]
theorem y9j {D:Dev}{a:Int}{s c1:z7}{c2:Bool}{c3:Int}(hc:D.cells[a.toNat]?=some ⟨c1,c2,c3,[]⟩)(h:decide (c3 > 0)=false) :
 D.put a s = { D with waits:=D.waits++[⟨a,s⟩] }:=by
 unfold Dev.put;rw[hc];simp only[h]
theorem y4u (D:Dev)(a:Int)(s:z7)(hn:D.waits.length≤1000000):AFm Tryz.prog 1 q7i [.ref 0 0,i64 a,bA s] (Y4 D) (v9 (i64 (D.write a s).1) (Y4 (D.write a s).2)):=by
 refine Q5 1 hT z5i rfl rfl z5j rfl rfl ?_
 refine q8 (q7 hT ?_)
 refine z8 ⟨⟨84,[(0,.ref 0 0),(1,i64 a),(2,bA s)]⟩,Y4 D.lives⟩ (D.dead=false∧D.has a=true∧s.length=256∧D.lives.dead=false) (z3 (q8 (q7 hT ?_))) ?_
 ·refine y9 (u6 [0,1,2] (z2q D) rfl rfl rfl) ?_
  refine z2 (y4 (fun h=>?_) (fun h=>?_))
  ·have e:D.write a s=(21,D):=by unfold Dev.write;rw[h]
   refine q8 (q7 hT ?_)
   refine y5 ?_
   rw[e]
   exact z9 [0,1,2] ⟨rfl,rfl⟩ rfl
  refine q8 (q7 hT ?_)
  refine y9 (u6 [0,1,2] (z6g D a) rfl rfl rfl) ?_
  refine z2 (y4 (fun h1=>?_) (fun h1=>?_))
  ·have h1:(!(D.has a))=true:=h1
   have e:D.write a s=(3,D):=by unfold Dev.write;rw[h,(Bool.not_eq_true' _).mp h1]
   refine q8 (q7 hT ?_)
   refine y5 ?_
   rw[e]
   exact z9 [0,1,2] ⟨rfl,rfl⟩ rfl
  have h1:D.has a=true:=(Bool.not_eq_false' _).mp h1
  refine q8 (q7 hT ?_)
  refine z2 (y4 (fun h2=>?_) (fun h2=>?_))
  ·have e:D.write a s=(1,D):=by
    have h2:(((bx s).length:Int) != 256)=true:=h2
    rw[w9]at h2
    unfold Dev.write;rw[h,h1,h2]
   refine q8 (q7 hT ?_)
   refine y5 ?_
   rw[e]
   exact z9 [0,1,2] ⟨rfl,rfl⟩ rfl
  have h2:((s.length:Int) != 256)=false:=by
   have h2:(((bx s).length:Int) != 256)=false:=h2
   rw[w9]at h2;exact h2
  refine q8 (q7 hT ?_)
  refine y9 (u6 [0,1,2] (y4p D) rfl rfl rfl) ?_
  refine z2 (y4 (fun h3=>?_) (fun h3=>?_))
  ·have e:D.write a s=(21,D.lives):=by unfold Dev.write;rw[h,h1,h2,not_not h3]
   refine q8 (q7 hT ?_)
   refine y5 ?_
   rw[e]
   exact z9 [0,1,2] ⟨rfl,rfl⟩ rfl
  refine z5 ⟨q9 [0,1,2] [0,1,2] rfl,h,h1,?_,not_not h3⟩
  have:(s.length:Int)=256:=by simpa using h2
  omega
 ·rintro⟨h,h1,h2,h3⟩
  have e:D.write a s=(0,D.lives.count.put a s):=by
   unfold Dev.write;rw[h,h1,show ((s.length:Int) != 256)=false by rw[h2];rfl,h3]
  rw[e]
  have hlt:a.toNat<D.cells.length∧0≤a∧a<(D.cells.length:Int):=by
   have h1:(decide (a≥0)&&decide (a<(D.cells.length:Int)))=true:=h1
   rw[Bool.and_eq_true,decide_eq_true_eq,decide_eq_true_eq]at h1
   omega
  have hc:=List.getElem?_eq_getElem hlt.1
  generalize D.cells[a.toNat]=c at hc
  obtain⟨c1,c2,c3,c4⟩:=c
  have g1:(cx D.cells)[0+a.toNat]?=some (Cell.pv ⟨c1,c2,c3,c4⟩):=by rw[Nat.zero_add];exact y4q hc
  have g2:∀ e,((cx D.cells).set (0+a.toNat) e)[0+a.toNat]?=some e:=fun e=>by
   rw[Nat.zero_add];exact List.getElem?_set_self (by rw[x3t];exact hlt.1)
  refine q8 (q7 hT ?_)
  refine q8 (q7 hT ?_)
  refine⟨⟨hlt.2.1,hlt.2.2⟩,?_⟩
  refine y6 (fun s1=>∃ C b,s1=⟨⟨84,[(0,.ref 0 0),(1,i64 b),(2,bA s)]⟩,Y4 { D.lives.count with cells:=C }⟩∧D.lives.count.put a s = { D.lives.count with cells:=C,waits:=D.waits++[⟨b,s⟩] }) (z3 (q8 (q7 hT ?_))) ?_
  ·refine v7 g1 ?_
   refine z2 (y4 (fun h4=>?_) (fun h4=>?_))
   ·have h4:decide (c3 > 0)=true:=h4
    have ep:D.lives.count.put a s = { D.lives.count with cells:=D.cells.set a.toNat ⟨c1,c2,IntKind.i64.wrap (c3 - 1),c4⟩ }:=x8z (D:=D.lives.count) hc h4
    refine q8 (q7 hT ?_)
    refine v7 g1 ?_
    refine v7 g1 ?_
    refine q8 (q7 hT ?_)
    refine y5 ?_
    rw[ep]
    exact z9 [0,1,2] ⟨rfl,(y4t D.lives.count a.toNat ⟨c1,c2,IntKind.i64.wrap (c3 - 1),c4⟩).symm⟩ rfl
   ·have h4:decide (c3 > 0)=false:=h4
    refine q8 (q7 hT ?_)
    refine v7 g1 ?_
    refine z2 (y4 (fun h5=>?_) (fun h5=>?_))
    ·cases c4 with
     |nil=>cases h5
     |cons t r=>
      have ep:D.lives.count.put a s = { D.lives.count with cells:=D.cells.set a.toNat ⟨c1,c2,c3,r⟩,waits:=D.waits++[⟨t,s⟩] }:=x9a (D:=D.lives.count) hc h4
      refine x6 [15] [] hT z6 (by rfl) ?_
      refine v7 g1 ?_
      refine⟨Int.le_refl _,v7 rfl ?_⟩
      refine v7 g1 ?_
      refine⟨⟨by omega,by rw[z8y];simp;omega,Int.le_refl _⟩,?_⟩
      refine v7 g1 ?_
      refine⟨_,q9 [0,1,2] [0,1,2] rfl,D.cells.set a.toNat ⟨c1,c2,c3,r⟩,t,?_,ep⟩
      refine congrArg (St.mk _) ?_
      refine Eq.trans ?_ (y4t D.lives.count a.toNat ⟨c1,c2,c3,r⟩).symm
      show [_,ABlk.row Z3 4 ((cx D.cells).set (0+a.toNat) [bP c1,.raw (.bool c2),.raw (.int .i64 c3),.sl 1 ((ix r).take (ix r).length)]),_]=_
      rw[List.take_length]
      rfl
    ·have h5:¬ ((ix c4).length:Int) > 0:=of_decide_eq_false h5
     have hc4:c4=[]:=by cases c4 with|nil=>rfl|cons t r=>exact absurd (show ((ix (t :: r)).length:Int) > 0 by rw[z8y];simp) h5
     subst hc4
     refine z5 ⟨_,q9 [0,1,2] [0,1,2] rfl,D.cells,a,rfl,y9j (D:=D.lives.count) hc h4⟩
  ·rintro _ ⟨C,b,rfl,ep⟩
   rw[ep]
   refine q8 ?_
   refine x6 [9,10,13] [] hT z6 (by rfl) ?_
   refine⟨_,w7 (z6h s (by omega)) _ rfl rfl,?_⟩
   refine⟨z8z _,⟨?_,?_⟩,?_⟩
   ·show ((wx D.waits).length+1)*32≤140737488355328
    rw[z8z];omega
   ·show (wx D.waits).length+1≤140737488355328
    rw[z8z];omega
   refine⟨rfl,?_⟩
   refine q8 (q7 hT ?_)
   refine y5 ?_
   exact z9 [0,1,4] ⟨rfl,(v3w { D.lives.count with cells:=C } ⟨b,s⟩).symm⟩ rfl
end Go.Proofs.YtinfbclgkghgaaaGreat.AL
namespace Go.Proofs.YtinfbclgkghgaaaGreat.AL
open Go Go.Proofs
def z3n:z7:=List.replicate 256 0
abbrev cell0:Cell:=⟨[],false,0,[]⟩
abbrev cell1:Cell:=⟨z3n,false,0,[]⟩
def Dev.new (n:Nat):Dev:=⟨List.replicate n cell1,[],false,false,0,0⟩
def z4g (n i:Nat):List Cell:=List.replicate i cell1++List.replicate (n - i) cell0
theorem v3x {n i:Nat}(h:i≤n):(z4g n i).length=n:=by simp[z4g];omega
theorem v3y {n i:Nat}(h:i<n):(z4g n i)[i]?=some cell0:=by
 unfold z4g;rw[List.getElem?_append_right (by simp)]
 rw[List.length_replicate,Nat.sub_self,show n - i=(n - i - 1)+1 by omega];rfl
theorem v3z {n i:Nat}(h:i<n):(z4g n i).set i cell1=z4g n (i+1):=by
 unfold z4g
 rw[List.set_append_right _ _ (by simp),List.length_replicate,Nat.sub_self,show n - i=(n - (i+1))+1 by omega,List.replicate_succ,List.replicate_succ']
 simp
theorem v4a (n:Nat)(h1:1≤n)(h2:n≤4096):AF Tryz.prog w2k [i64 n] [] (v9 (.tup [.ref 0 0,i64 0]) (Y4 (Dev.new n))):=by
 refine v8 hT w2m rfl rfl w2n rfl ?_
 refine q8 (q7 hT ?_)
 refine q8 (q8 (q7 hT ?_))
 refine y4 (fun h1=>?_) (fun h1=>?_)
 ·have:=of_decide_eq_true h1
  omega
 refine z2 (y4 (fun h2=>?_) (fun h2=>?_))
 ·have h2:decide ((n:Int) > 4096)=true:=h2
  have:=of_decide_eq_true h2
  omega
 refine z5 ?_
 refine q8 (q7 hT ?_)
 refine⟨⟨rfl,by omega,(show ((n:Nat):Int)*64≤140737488355328 by omega),by omega⟩,?_⟩
 refine Q1 (Wk.trans (v3b 0 (cx (z4g n 0)) rfl ?_ ?_) (Wk.trans (X5 Q8 2) (Wk.trans (q0w 1 [.msl 0 4 0 n,.msl 2 2 0 0,bl false,bl false,i64 0,i64 0] rfl ⟨.inl rfl,.inr (.inr (.inl ⟨2,2,0,rfl,rfl⟩)),.inl rfl,.inl rfl,.inl rfl,.inl rfl,trivial⟩) (q9 [1,0,2] [4] rfl)))) ?_
 ·show (cx (z4g n 0)).length=(List.replicate ((n:Int).toNat) _).length
  rw[x3t,v3x (Nat.zero_le n),List.length_replicate];omega
 ·intro j e2 hj
  have hx:cx (z4g n 0)=List.replicate n cell0.pv:=by simp[cx,z4g]
  rw[hx]at hj
  have hjn:j<n:=by have:=(List.getElem?_eq_some_iff.1 hj).1;simpa using this
  have:e2=cell0.pv:=by
   rw[List.getElem?_replicate,if_pos hjn]at hj
   exact(Option.some.inj hj).symm
  subst this
  refine⟨[.raw (.slice none 0 0),.raw (.bool false),.raw (.int .i64 0),.raw (.slice none 0 0)],?_,rfl,?_⟩
  ·show (List.replicate ((n:Int).toNat) _)[j]?=_
   rw[List.getElem?_replicate,if_pos (by omega)];rfl
  ·intro i u2 hu
   match i,hu with
   |0,hu=>exact⟨_,rfl,.inr ⟨1,rfl,(Option.some.inj hu).symm⟩⟩
   |1,hu=>exact⟨_,rfl,.inl (Option.some.inj hu).symm⟩
   |2,hu=>exact⟨_,rfl,.inl (Option.some.inj hu).symm⟩
   |3,hu=>exact⟨_,rfl,.inr ⟨1,rfl,(Option.some.inj hu).symm⟩⟩
 refine q8 (q8 (q7 hT ?_))
 refine z3 ?_
 refine y8 (fun r s=>∃ (i:Nat) (j:Int) (C:List Cell),r+i=n∧j=i∧C=z4g n i∧s=⟨⟨34,[(4,.ref 0 0),(20,i64 (n:Nat)),(21,i64 j)]⟩,[.cells z1a [.msl 1 4 0 n,.msl 2 2 0 0,bl false,bl false,i64 0,i64 0],.row Z3 4 (cx C),.row Q8 2 []]⟩) n ⟨⟨34,_⟩,[_,_,_]⟩ (q9 [0,1,2] [4,20,21] rfl) ⟨0,_,_,rfl,rfl,rfl,rfl⟩ ?_
 rintro r s ⟨i,j,C,hr,rfl,hC,rfl⟩
 refine q8 (q7 hT ?_)
 refine q8 (z2 (y4 (fun h=>?_) (fun h=>?_)))
 ·refine z5 ?_
  have hi:i<n:=by simpa using h
  refine q8 (z3 (q8 (q7 hT ?_)))
  refine x6 [5,8] [5] hT z6 (by rfl) ?_
  have hg:(cx C)[0+((i:Nat):Int).toNat]?=some cell0.pv:=by
   rw[hC,Int.toNat_natCast,Nat.zero_add];exact y4q (v3y hi)
  refine⟨⟨rfl,by omega,by decide,by omega⟩,?_⟩
  refine⟨⟨rfl,List.length_replicate.symm⟩,?_⟩
  refine⟨⟨Int.natCast_nonneg _,by omega⟩,?_⟩
  refine v7 hg ?_
  refine y2h rfl (v7 rfl ?_)
  refine⟨rfl,?_⟩
  refine q7 hT ?_
  refine⟨n - (i+1),by omega,_,q9 [0,1,2] [4,20,21] rfl,i+1,IntKind.i64.wrap ((i:Int)+1),z4g n (i+1),by omega,?_,rfl,?_⟩
  ·rw[y7 _ (by omega) (by omega)];rfl
  ·refine congrArg (St.mk _) ?_
   have e:cx (z4g n (i+1))=(cx C).set (0+((i:Nat):Int).toNat) cell1.pv:=by
    rw[← v3z hi,← hC,w3m,Int.toNat_natCast,Nat.zero_add]
   rw[e]
   refine congrArg (fun z=>[_,ABlk.row Z3 4 ((cx C).set (0+((i:Nat):Int).toNat) [.sl 1 z,_,_,_]),_]) ?_
   show List.replicate 256 [PV.raw (.int .u8 0)]=bx (List.replicate 256 0)
   rw[bx,List.map_replicate];rfl
 ·refine x9 ?_
  refine q8 (q7 hT ?_)
  refine y5 ?_
  have hi:i=n:=by
   have:¬ i<n:=by simpa using h
   omega
  have hx:C=List.replicate n cell1:=by rw[hC,hi];simp[z4g]
  refine z9 [0,1,2] ⟨rfl,?_⟩ rfl
  rw[hx]
  unfold Y4 q3k Dev.new
  rw[List.length_replicate]
  rfl
end Go.Proofs.YtinfbclgkghgaaaGreat.AL
